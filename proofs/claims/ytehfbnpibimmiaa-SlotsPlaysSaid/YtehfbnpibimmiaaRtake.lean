/- The contract of the reference's Take (function 22): the slot freed last; else the least that never was in use; else none. -/
import Derived.Test.YtehfbnpibimmiaaRefs
namespace Go.Proofs.Ytehfbnpibimmiaa.Rtake
open Go.RowKit Go.Proofs.YtehfbnpibimmiaaW.PrintWords Go.Proofs.YtehfbnpibimmiaaW.PrintLast Go.Proofs.YtehfbnpibimmiaaW.PrintMore Go.Proofs.Ytehfbnpibimmiaa.Lie Go.Proofs.Ytehfbnpibimmiaa.Use Go.Proofs.Ytehfbnpibimmiaa.Take Go.Proofs.Ytehfbnpibimmiaa.Live Go.Proofs.Ytehfbnpibimmiaa.Free Go.Proofs.Ytehfbnpibimmiaa.Awake Go.Proofs.Ytehfbnpibimmiaa.List Go.Proofs.Ytehfbnpibimmiaa.Inv Go.Proofs.Ytehfbnpibimmiaa.Ref Go.Proofs.Ytehfbnpibimmiaa.Refs

theorem rtake_nil (w : World) : Calls Try.prog 22 #[.pointer none] w fun e w' => e = .returned (.tuple #[.int .u32 0, .int .i64 10]) ∧ w = w' := by
  go_enter Try.func22, Try.ntmps22
  go_wp2
  go_ret2
  exact ⟨rfl, rfl⟩
/-! ### Which slot -/
def BestOf (F : Nat → Int) (x : Nat) (b : Int) : Prop := (b = -1 ∧ ∀ k, k < x → F k ≤ 0) ∨ ∃ c : Nat, b = c ∧ c < x ∧ 0 < F c ∧ ∀ k, k < x → F k ≤ F c
theorem best_zero (F : Nat → Int) : BestOf F 0 (-1) := .inl ⟨rfl, fun k hk => absurd hk (by omega)⟩
theorem best_no {F : Nat → Int} {x : Nat} {b : Int} (h : BestOf F x b) (hx : ¬ 0 < F x) : BestOf F (x + 1) b := by
  rcases h with ⟨h1, h2⟩ | ⟨c, h1, h2, h3, h4⟩
  · exact .inl ⟨h1, fun k hk => by by_cases e : k = x; (rw [e]; omega); exact h2 k (by omega)⟩
  · exact .inr ⟨c, h1, by omega, h3, fun k hk => by by_cases e : k = x; (rw [e]; omega); exact h4 k (by omega)⟩
theorem best_first {F : Nat → Int} {x : Nat} (h : BestOf F x (-1)) (hx : 0 < F x) : BestOf F (x + 1) x := by
  rcases h with ⟨h1, h2⟩ | ⟨c, h1, _⟩
  · exact .inr ⟨x, rfl, by omega, hx, fun k hk => by by_cases e : k = x; (rw [e]; omega); have := h2 k (by omega); omega⟩
  · omega
theorem best_more {F : Nat → Int} {x c : Nat} (h : BestOf F x c) (hx : F c < F x) : BestOf F (x + 1) x := by
  rcases h with ⟨h1, h2⟩ | ⟨c', h1, h2, h3, h4⟩
  · omega
  · have : c' = c := by omega
    subst this
    exact .inr ⟨x, rfl, by omega, by omega, fun k hk => by by_cases e : k = x; (rw [e]; omega); have := h4 k (by omega); omega⟩
theorem best_less {F : Nat → Int} {x c : Nat} (h : BestOf F x c) (hx : ¬ F c < F x) : BestOf F (x + 1) c := by
  rcases h with ⟨h1, h2⟩ | ⟨c', h1, h2, h3, h4⟩
  · omega
  · have : c' = c := by omega
    subst this
    exact .inr ⟨c', rfl, by omega, h3, fun k hk => by by_cases e : k = x; (rw [e]; omega); exact h4 k (by omega)⟩
/-- The slot, when there is one. -/
def Pick (F G : Nat → Int) (n c : Nat) : Prop := c < n ∧ ((0 < F c ∧ ∀ k, k < n → F k ≤ F c) ∨ ((∀ k, k < n → F k ≤ 0) ∧ G c = 0 ∧ ∀ k, k < c → G k ≠ 0))
def T1 (w : World) (n : Nat) (F : Nat → Int) (b i : Value) (W : World) : Prop := ∃ (c : Int) (x : Nat), b = .int .i64 c ∧ i = .int .i64 x ∧ x ≤ n ∧ Below w.heap.size w W ∧ BestOf F x c
def T2 (w : World) (n : Nat) (F G : Nat → Int) (b i : Value) (W : World) : Prop :=
  ∃ x : Nat, i = .int .i64 x ∧ x ≤ n ∧ Below w.heap.size w W ∧ ((∃ c : Nat, b = .int .i64 c ∧ Pick F G n c) ∨ (b = .int .i64 (-1) ∧ (∀ k, k < n → F k ≤ 0) ∧ ∀ k, k < x → G k ≠ 0))
theorem t1_next {w W W1 W2 : World} {n x : Nat} {F : Nat → Int} {c : Int} (hB : Below w.heap.size w W) (h1 : Below W.heap.size W W1) (h2 : Below W1.heap.size W1 W2) (hx : x < n) (hb : BestOf F (x + 1) c) : T1 w n F (.int .i64 c) (.int .i64 ((x : Int) + 1)) W2 :=
  ⟨c, x + 1, rfl, by simp, hx, (hB.trans (h1.mono hB.size)).trans (h2.mono (Nat.le_trans hB.size h1.size)), hb⟩
theorem t2_start {w W : World} {n : Nat} {F G : Nat → Int} {c : Int} (hB : Below w.heap.size w W) (hb : BestOf F n c) : T2 w n F G (.int .i64 c) (.int .i64 0) W := by
  refine ⟨0, rfl, by omega, hB, ?_⟩
  rcases hb with ⟨rfl, h2⟩ | ⟨c', rfl, h2, h3, h4⟩
  · exact .inr ⟨rfl, h2, fun k hk => absurd hk (by omega)⟩
  · exact .inl ⟨c', rfl, h2, .inl ⟨h3, h4⟩⟩
/-- Behind it. -/
def Tookn (w : World) (B rb lb n : Nat) (first clock : Int) (G : Nat → Int) (U : Nat → Bool) (F : Nat → Int) (e : Ending) (w' : World) : Prop :=
  (∃ c g, Pick F G n c ∧ g = (if G c = 0 then first else G c + 1) ∧ e = .returned (.tuple #[.int .u32 (g * 1024 + (c : Nat)), .int .i64 0]) ∧
      RLies w' B rb lb first n (fun i => if i = c then g else G i) (fun i => if i = c then true else U i) (fun i => if i = c then 0 else F i) clock ∧ Turns (ROwn rb lb) w w') ∨
    ((∀ k, k < n → F k ≤ 0 ∧ G k ≠ 0) ∧ e = .returned (.tuple #[.int .u32 0, .int .i64 8]) ∧ Below w.heap.size w w')
theorem tookn {w W : World} {B rb lb n : Nat} {first clock : Int} {G : Nat → Int} {U : Nat → Bool} {F : Nat → Int} {e : Ending} {c : Nat} {g : Int} (nd : Nat) (hB : Below w.heap.size w W) (hY : RLies W B rb lb first n G U F clock) (hp : Pick F G n c) (hg : g = (if G c = 0 then first else G c + 1)) (he : e = .returned (.tuple #[.int .u32 (g * 1024 + (c : Nat)), .int .i64 0])) :
    Tookn w B rb lb n first clock G U F e ((((W.setCell ⟨lb, c * 3, none⟩ (.int .i64 g)).setCell ⟨lb, c * 3 + 1, none⟩ (.bool true)).setCell ⟨lb, c * 3 + 2, none⟩ (.int .i64 0)).drewN nd) :=
  .inl ⟨c, g, hp, hg, he, r_drew (r_setF (r_setU (r_setG hY c hp.1 g) c hp.1 true) c hp.1 0) nd,
    ((((Turns.of_below (S := ROwn rb lb) hB).set (a := ⟨lb, c * 3, none⟩) (.inl (.inr rfl)) _).set (a := ⟨lb, c * 3 + 1, none⟩) (.inl (.inr rfl)) _).set (a := ⟨lb, c * 3 + 2, none⟩) (.inl (.inr rfl)) _).drew nd⟩
set_option maxHeartbeats 4000000 in
set_option maxRecDepth 100000 in
theorem rtake_calls {w : World} {B rb lb n : Nat} {first clock : Int} {G : Nat → Int} {U : Nat → Bool} {F : Nat → Int} (h : RLies w B rb lb first n G U F clock) (hn : n ≤ 1024) (f1 : 1 ≤ first) (f2 : first ≤ 4194303) (hG : ∀ k, k < n → 0 ≤ G k ∧ G k ≤ 4194303) (hF : ∀ k, k < n → 0 < F k → G k < 4194303 ∧ G k ≠ 0) :
    Calls Try.prog 22 #[.pointer (some ⟨rb, 0, none⟩)] w (Tookn w B rb lb n first clock G U F) := by
  obtain ⟨c0, c1, c2⟩ := r_cells h
  have HX := Aside0.mk h
  have HG := Aside0.mk hG
  have HF := Aside0.mk hF
  clear h c0 c2 hG hF
  go_enter Try.func22, Try.ntmps22
  go_wp2
  go_loopw [4, 16] (fun b i W => T1 w n F b i W) (fun _ i _ => n - (intOf i).toNat)
  case atStart => exact ⟨-1, 0, rfl, rfl, by omega, Below.refl _ _, best_zero F⟩
  case round =>
    obtain ⟨b, x, rfl, rfl, hx, hB, hbest⟩ := hrel
    have HB := Aside0.mk hB
    have HN := Aside0.mk hbest
    have HY := Aside0.mk (r_below HX.out hB)
    clear hB hbest c1
    have c1 := (r_cells HY.out).2.1
    by_cases hend : x < n
    · obtain ⟨e0, e1, e2⟩ := r_at HY.out x hend
      have d0 : decide ((x : Int) < (n : Int)) = true := decide_eq_true (by omega)
      have hxb : (x : Int) ≤ 1024 := by omega
      have hx2 : (x : Int) < (n : Int) := by omega
      go_wp2
      obtain ⟨f0, f1, f2, hb1⟩ := one_at wr (G x) (U x) (F x)
      have HB1 := Aside0.mk hb1
      have HY1 := Aside0.mk (r_below HY.out hb1)
      generalize wr.alloc (.cells #[.int .i64 (G x), .bool (U x), .int .i64 (F x)] 65) = W1 at f0 f1 f2 HB1 HY1 ⊢
      clear hb1 e0 e1 e2 c1
      have c1 := (r_cells HY1.out).2.1
      by_cases h3 : 0 < F x
      · have dg : decide (0 < F x) = true := decide_eq_true h3
        by_cases hb : b < 0
        · have db : decide (b < 0) = true := decide_eq_true hb
          have hbe : b = -1 := by
            rcases HN.out with ⟨h, _⟩ | ⟨c, h, _⟩
            · exact h
            · omega
          subst hbe
          go_quiet (fail)
          go_wp2
          go_roundw
          case rel => exact t1_next HB.out HB1.out (Drawn0.below ⟨⟨_, rfl⟩⟩) hend (best_first HN.out h3)
          case measure => simp [intOf]; omega
        · obtain ⟨c, rfl⟩ := Int.eq_ofNat_of_zero_le (show 0 ≤ b by omega)
          have db : decide ((c : Int) < 0) = false := decide_eq_false (by omega)
          have hcx : c < x := by
            rcases HN.out with ⟨h, _⟩ | ⟨c', h, h2, _⟩
            · omega
            · omega
          have hc0 : (0 : Int) ≤ (c : Int) := by omega
          have hc1 : (c : Int) < (n : Int) := by omega
          have e2 := (r_at HY1.out c (by omega)).2.2
          by_cases h4 : F c < F x
          · have d4 : decide (F c < F x) = true := decide_eq_true h4
            go_quiet (fail)
            go_wp2
            go_roundw
            case rel => exact t1_next HB.out HB1.out (Drawn0.below ⟨⟨_, rfl⟩⟩) hend (best_more HN.out h4)
            case measure => simp [intOf]; omega
          · have d4 : decide (F c < F x) = false := decide_eq_false h4
            go_quiet (fail)
            go_wp2
            go_roundw
            case rel => exact t1_next HB.out HB1.out (Drawn0.below ⟨⟨_, rfl⟩⟩) hend (best_less HN.out h4)
            case measure => simp [intOf]; omega
      · have dg : decide (0 < F x) = false := decide_eq_false h3
        go_quiet (fail)
        go_wp2
        go_roundw
        case rel => exact t1_next HB.out HB1.out (Drawn0.below ⟨⟨_, rfl⟩⟩) hend (best_no HN.out h3)
        case measure => simp [intOf]; omega
    · have d0 : decide ((x : Int) < (n : Int)) = false := decide_eq_false (by omega)
      have d2 : decide (x < n) = false := decide_eq_false (by omega)
      have hxn : x = n := by omega
      subst hxn
      have H2 := Aside0.mk (t2_start (G := G) HB.out HN.out)
      clear HB HN HY c1
      go_wp2
      go_loopw [4, 7] (fun b i W => T2 w x F G b i W) (fun _ i _ => x - (intOf i).toNat)
      case atStart => exact H2.out
      case round =>
        clear H2
        obtain ⟨y, rfl, hy, hB, hp⟩ := hrel
        have HB := Aside0.mk hB
        have HY := Aside0.mk (r_below HX.out hB)
        clear hB
        have c1 := (r_cells HY.out).2.1
        rcases hp with ⟨c, rfl, hp⟩ | ⟨rfl, hp⟩
        · have HP := Aside0.mk hp
          have hcx : c < x := hp.1
          have hc0 : (0 : Int) ≤ (c : Int) := by omega
          have hc1 : (c : Int) < (x : Int) := by omega
          have db : decide ((c : Int) < 0) = false := decide_eq_false (by omega)
          obtain ⟨g1, g2⟩ := HG.out c hcx
          obtain ⟨e0, e1, e2⟩ := r_at HY.out c hcx
          clear hp
          have fl0 := (r_frozen HY.out (c * 3)).2
          have fl1 := (r_frozen HY.out (c * 3 + 1)).2
          have fl2 := (r_frozen HY.out (c * 3 + 2)).2
          have c00 := (r_cells HY.out).1
          by_cases hg : G c = 0
          · rw [hg] at e0
            clear g1 g2
            go_wp2_with (go_at_call 8; (with_reducible refine (rmake_ok _ _ _ (by omega) (by omega) f1 f2).mono ?_); rintro e w' ⟨rfl, ⟨nd, rfl⟩⟩)
            go_ret2
            exact tookn nd HB.out HY.out HP.out (by rw [if_pos hg]) rfl
          · have hgb : 0 < F c ∧ G c < 4194303 := by
              rcases HP.out.2 with ⟨h1, _⟩ | ⟨_, h2, _⟩
              · exact ⟨h1, (HF.out c hcx h1).1⟩
              · exact absurd h2 hg
            obtain ⟨hgb1, hgb2⟩ := hgb
            have dg : decide (G c = 0) = false := decide_eq_false hg
            have dg2 : (G c == 0) = false := by rw [beq_eq_false_iff_ne]; exact hg
            have dg3 : decide (G c + 1 = 1) = false := decide_eq_false (by omega)
            have dg4 : (G c + 1 == 1) = false := by rw [beq_eq_false_iff_ne]; omega
            go_wp2_with (go_at_call 8; (with_reducible refine (rmake_ok _ _ _ (by omega) (by omega) (by omega) (by omega)).mono ?_); rintro e w' ⟨rfl, ⟨nd, rfl⟩⟩)
            go_ret2
            exact tookn nd HB.out HY.out HP.out (by rw [if_neg hg]) rfl
        · have HP := Aside0.mk hp
          clear hp
          by_cases hend : y < x
          · have hy0 : (0 : Int) ≤ (y : Int) := by omega
            have hy1 : (y : Int) < (x : Int) := by omega
            have dy : decide ((y : Int) < (x : Int)) = true := decide_eq_true hy1
            obtain ⟨e0, e1, e2⟩ := r_at HY.out y hend
            by_cases hg : G y = 0
            · have dg : decide (G y = 0) = true := decide_eq_true hg
              have dg2 : (G y == 0) = true := by rw [beq_iff_eq]; exact hg
              go_wp2
              go_roundw
              case rel => exact ⟨y + 1, by simp, hend, HB.out, .inl ⟨y, rfl, hend, .inr ⟨HP.out.1, hg, fun k hk => HP.out.2 k hk⟩⟩⟩
              case measure => simp [intOf]; omega
            · have dg : decide (G y = 0) = false := decide_eq_false hg
              have dg2 : (G y == 0) = false := by rw [beq_eq_false_iff_ne]; exact hg
              go_wp2
              go_roundw
              case rel => exact ⟨y + 1, by simp, hend, HB.out, .inr ⟨rfl, HP.out.1, fun k hk => by by_cases e : k = y; (rw [e]; exact hg); exact HP.out.2 k (by omega)⟩⟩
              case measure => simp [intOf]; omega
          · have dy : decide ((y : Int) < (x : Int)) = false := decide_eq_false (by omega)
            have dy2 : decide (y < x) = false := decide_eq_false (by omega)
            go_wp2
            go_ret2
            exact .inr ⟨fun k hk => ⟨HP.out.1 k hk, HP.out.2 k (by omega)⟩, rfl, HB.out⟩
/-- One that was freed: the one freed last. -/
theorem rtake_free (c : Nat) (id : Int) {w : World} {B rb lb n : Nat} {first clock : Int} {G : Nat → Int} {U : Nat → Bool} {F : Nat → Int} (h : RLies w B rb lb first n G U F clock) (hn : n ≤ 1024) (f1 : 1 ≤ first) (f2 : first ≤ 4194303) (hG : ∀ k, k < n → 0 ≤ G k ∧ G k ≤ 4194303) (hF : ∀ k, k < n → 0 < F k → G k < 4194303 ∧ G k ≠ 0)
    (hc : c < n) (h0 : 0 < F c) (hb : ∀ k, k < n → k ≠ c → F k < F c) (hid : (G c + 1) * 1024 + c = id) :
    Calls Try.prog 22 #[.pointer (some ⟨rb, 0, none⟩)] w fun e w' => e = .returned (.tuple #[.int .u32 id, .int .i64 0]) ∧
      RLies w' B rb lb first n (fun i => if i = c then G c + 1 else G i) (fun i => if i = c then true else U i) (fun i => if i = c then 0 else F i) clock ∧ Turns (ROwn rb lb) w w' := by
  subst hid
  refine (rtake_calls h hn f1 f2 hG hF).mono ?_
  rintro e w' (⟨c', g, hp, hg, rfl, hr, ht⟩ | ⟨hno, _⟩)
  · have hcc : c' = c := by
      rcases hp.2 with ⟨h1, h2⟩ | ⟨h1, _⟩
      · by_cases e : c' = c
        · exact e
        · have := h2 c hc; have := hb c' hp.1 e; omega
      · have := h1 c hc; omega
    subst hcc
    rw [if_neg (hF c' hc h0).2] at hg
    subst hg
    exact ⟨rfl, hr, ht⟩
  · have := (hno c hc).1; omega
/-- One that never was in use: the least. -/
theorem rtake_fresh (c : Nat) (id : Int) {w : World} {B rb lb n : Nat} {first clock : Int} {G : Nat → Int} {U : Nat → Bool} {F : Nat → Int} (h : RLies w B rb lb first n G U F clock) (hn : n ≤ 1024) (f1 : 1 ≤ first) (f2 : first ≤ 4194303) (hG : ∀ k, k < n → 0 ≤ G k ∧ G k ≤ 4194303)
    (hc : c < n) (h0 : ∀ k, k < n → F k ≤ 0) (hg0 : G c = 0) (hb : ∀ k, k < c → G k ≠ 0) (hid : first * 1024 + c = id) :
    Calls Try.prog 22 #[.pointer (some ⟨rb, 0, none⟩)] w fun e w' => e = .returned (.tuple #[.int .u32 id, .int .i64 0]) ∧
      RLies w' B rb lb first n (fun i => if i = c then first else G i) (fun i => if i = c then true else U i) (fun i => if i = c then 0 else F i) clock ∧ Turns (ROwn rb lb) w w' := by
  subst hid
  refine (rtake_calls h hn f1 f2 hG (fun k hk hf => by have := h0 k hk; omega)).mono ?_
  rintro e w' (⟨c', g, hp, hg, rfl, hr, ht⟩ | ⟨hno, _⟩)
  · have hcc : c' = c := by
      rcases hp.2 with ⟨h1, _⟩ | ⟨_, h1, h2⟩
      · have := h0 c' hp.1; omega
      · rcases Nat.lt_trichotomy c' c with e | e | e
        · exact absurd h1 (hb c' e)
        · exact e
        · exact absurd hg0 (h2 c e)
    subst hcc
    rw [if_pos hg0] at hg
    subst hg
    exact ⟨rfl, hr, ht⟩
  · exact absurd hg0 (hno c hc).2
/-- None. -/
theorem rtake_full {w : World} {B rb lb n : Nat} {first clock : Int} {G : Nat → Int} {U : Nat → Bool} {F : Nat → Int} (h : RLies w B rb lb first n G U F clock) (hn : n ≤ 1024) (f1 : 1 ≤ first) (f2 : first ≤ 4194303) (hG : ∀ k, k < n → 0 ≤ G k ∧ G k ≤ 4194303)
    (h0 : ∀ k, k < n → F k ≤ 0) (hb : ∀ k, k < n → G k ≠ 0) :
    Calls Try.prog 22 #[.pointer (some ⟨rb, 0, none⟩)] w fun e w' => e = .returned (.tuple #[.int .u32 0, .int .i64 8]) ∧ Below w.heap.size w w' := by
  refine (rtake_calls h hn f1 f2 hG (fun k hk hf => by have := h0 k hk; omega)).mono ?_
  rintro e w' (⟨c', g, hp, hg, rfl, hr, ht⟩ | ⟨hno, rfl, hb'⟩)
  · rcases hp.2 with ⟨h1, _⟩ | ⟨_, h1, h2⟩
    · have := h0 c' hp.1; omega
    · exact absurd h1 (hb c' hp.1)
  · exact ⟨rfl, hb'⟩
end Go.Proofs.Ytehfbnpibimmiaa.Rtake
