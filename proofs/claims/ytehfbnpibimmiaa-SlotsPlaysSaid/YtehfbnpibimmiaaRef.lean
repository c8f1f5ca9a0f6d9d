/- How the reference's slots lie in memory: a struct of three cells and a row of three cells for each slot. Contracts of the reference's New (function 21), Live (24), Free (23), Take (22), List (25). -/
import Derived.Test.YtehfbnpibimmiaaInv
import Derived.OrdersHeld
namespace Go.Proofs.Ytehfbnpibimmiaa.Ref
open Go.RowKit Go.Proofs.YtehfbnpibimmiaaW.PrintWords Go.Proofs.YtehfbnpibimmiaaW.PrintLast Go.Proofs.YtehfbnpibimmiaaW.PrintMore Go.Proofs.Ytehfbnpibimmiaa.Lie Go.Proofs.Ytehfbnpibimmiaa.Use Go.Proofs.Ytehfbnpibimmiaa.Take Go.Proofs.Ytehfbnpibimmiaa.Live Go.Proofs.Ytehfbnpibimmiaa.Free Go.Proofs.Ytehfbnpibimmiaa.Awake Go.Proofs.Ytehfbnpibimmiaa.List Go.Proofs.Ytehfbnpibimmiaa.Inv

/-! ### Make, Slot, Gen -/
theorem rmake_ok (slot gen : Int) (w : World) (h0 : 0 ≤ slot) (h1 : slot < 1024) (h2 : 1 ≤ gen) (h3 : gen ≤ 4194303) :
    Calls Try.prog 8 #[.int .i64 slot, .int .i64 gen] w fun e w' => e = .returned (.tuple #[.int .u32 (gen * 1024 + slot), .int .i64 0]) ∧ Drawn0 w w' := by
  refine PSlotsPlays.pinnaceref07_Make.calls slot gen _ _ w ?_
  unfold PSlotsPlays.pinnaceref07_Make.f
  rw [if_neg (by omega), if_neg (by omega), if_neg (by omega), if_neg (by omega)]
  simp only [Option.some.injEq, Prod.mk.injEq, and_true]
  omega
theorem rslot_of (id : Int) (w : World) (h0 : 0 ≤ id) (h1 : id < 4294967296) :
    Calls Try.prog 11 #[.int .u32 id] w fun e w' => e = .returned (.int .i64 (id % 1024)) ∧ Drawn0 w w' := by
  refine PSlotsPlays.pinnaceref07_Slot.calls id _ w ?_
  unfold PSlotsPlays.pinnaceref07_Slot.f
  have e0 : wrap64 id = id := by unfold wrap64; omega
  rw [e0, Int.tmod_eq_emod_of_nonneg h0]
theorem rgen_of (id : Int) (w : World) (h0 : 0 ≤ id) (h1 : id < 4294967296) :
    Calls Try.prog 13 #[.int .u32 id] w fun e w' => e = .returned (.int .i64 (id / 1024)) ∧ Drawn0 w w' := by
  refine PSlotsPlays.pinnaceref07_Gen.calls id _ w ?_
  unfold PSlotsPlays.pinnaceref07_Gen.f
  have e0 : wrap64 id = id := by unfold wrap64; omega
  rw [e0, Int.tdiv_eq_ediv_of_nonneg h0]
  have e1 : wrap64 (id / 1024) = id / 1024 := by unfold wrap64; omega
  rw [e1]

/-! ### How it lies -/
def rObj (first : Int) (lb n : Nat) (clock : Int) : Obj := .cells #[.int .i64 first, .slice (some ⟨lb, 0, none⟩) n n, .int .i64 clock] 63 (0, 0)
structure RLies (w : World) (B rb lb : Nat) (first : Int) (n : Nat) (G : Nat → Int) (U : Nat → Bool) (F : Nat → Int) (clock : Int) : Prop where
  obj : w.heap[rb]? = some (rObj first lb n clock)
  row : ∃ cs : Array Value, w.heap[lb]? = some (.cells cs 65 (0, 0)) ∧ cs.size = n * 3 ∧ ∀ k, k < n → cs[k * 3]? = some (.int .i64 (G k)) ∧ cs[k * 3 + 1]? = some (.bool (U k)) ∧ cs[k * 3 + 2]? = some (.int .i64 (F k))
  lb : B ≤ rb ∧ B ≤ lb
def ROwn (rb lb k : Nat) : Prop := k = rb ∨ k = lb
section
variable {w w1 : World} {S T : Nat → Prop} {B rb lb n : Nat} {first clock : Int} {G : Nat → Int} {U : Nat → Bool} {F : Nat → Int}
theorem r_lt (h : RLies w B rb lb first n G U F clock) : rb < w.heap.size ∧ lb < w.heap.size := by
  obtain ⟨cs, hc, _⟩ := h.row
  exact ⟨(Array.getElem?_eq_some_iff.1 h.obj).1, (Array.getElem?_eq_some_iff.1 hc).1⟩
theorem r_apart (h : RLies w B rb lb first n G U F clock) : rb ≠ lb := by
  obtain ⟨cs, hc, _⟩ := h.row
  intro e
  have := h.obj
  rw [e, hc] at this; simp [rObj] at this
theorem r_turns (h : RLies w B rb lb first n G U F clock) (ht : Turns S w w1) (hS : ∀ k, ROwn rb lb k → ¬ S k) : RLies w1 B rb lb first n G U F clock := by
  have l := r_lt h
  refine ⟨by rw [ht.block _ l.1 (hS _ (.inl rfl))]; exact h.obj, ?_, h.lb⟩
  rw [ht.block _ l.2 (hS _ (.inr rfl))]
  exact h.row
theorem r_below (h : RLies w B rb lb first n G U F clock) (hb : Below w.heap.size w w1) : RLies w1 B rb lb first n G U F clock :=
  r_turns h (S := fun _ => False) (Turns.of_below hb) (fun _ _ => id)
theorem r_cells (h : RLies w B rb lb first n G U F clock) :
    w.cell? ⟨rb, 0, none⟩ = some (.int .i64 first) ∧ w.cell? ⟨rb, 1, none⟩ = some (.slice (some ⟨lb, 0, none⟩) n n) ∧ w.cell? ⟨rb, 2, none⟩ = some (.int .i64 clock) := by
  refine ⟨?_, ?_, ?_⟩ <;> simp [World.cell?, h.obj, rObj]
theorem r_frozen (h : RLies w B rb lb first n G U F clock) (o : Nat) : w.frozen? ⟨rb, o, none⟩ = false ∧ w.frozen? ⟨lb, o, none⟩ = false := by
  obtain ⟨cs, hc, _⟩ := h.row
  refine ⟨?_, ?_⟩ <;> simp [World.frozen?, h.obj, rObj, hc]
theorem r_at (h : RLies w B rb lb first n G U F clock) (k : Nat) (hk : k < n) :
    w.cell? ⟨lb, k * 3, none⟩ = some (.int .i64 (G k)) ∧ w.cell? ⟨lb, k * 3 + 1, none⟩ = some (.bool (U k)) ∧ w.cell? ⟨lb, k * 3 + 2, none⟩ = some (.int .i64 (F k)) := by
  obtain ⟨cs, hc, hs, hr⟩ := h.row
  obtain ⟨h1, h2, h3⟩ := hr k hk
  refine ⟨?_, ?_, ?_⟩ <;> simp [World.cell?, hc, h1, h2, h3]
end
/-- The loop's copy of a slot. -/
theorem one_at (w : World) (g : Int) (u : Bool) (f : Int) :
    (w.alloc (.cells #[.int .i64 g, .bool u, .int .i64 f] 65)).cell? ⟨w.heap.size, 0, none⟩ = some (.int .i64 g) ∧ (w.alloc (.cells #[.int .i64 g, .bool u, .int .i64 f] 65)).cell? ⟨w.heap.size, 1, none⟩ = some (.bool u) ∧
      (w.alloc (.cells #[.int .i64 g, .bool u, .int .i64 f] 65)).cell? ⟨w.heap.size, 2, none⟩ = some (.int .i64 f) ∧ Below w.heap.size w (w.alloc (.cells #[.int .i64 g, .bool u, .int .i64 f] 65)) := by
  have h := heap_alloc_new w (.cells #[.int .i64 g, .bool u, .int .i64 f] 65)
  refine ⟨?_, ?_, ?_, (Below.refl _ w).alloc (Nat.le_refl _) _⟩ <;> (unfold World.cell?; rw [h]; rfl)
/-! ### Live -/
theorem rslot_q (id : Int) (h0 : 0 ≤ id) (h1 : id < 4294967296) (w : World) (n : Nat) : Calls Try.prog 11 #[.int .u32 id] (w.drewN n) fun e w' => e = .returned (.int .i64 (id % 1024)) ∧ ∃ k, w' = (w.drewN n).drewN k :=
  (rslot_of id (w.drewN n) h0 h1).mono fun _ _ ⟨he, ⟨k, hk⟩⟩ => ⟨he, k, hk⟩
theorem rgen_q (id : Int) (h0 : 0 ≤ id) (h1 : id < 4294967296) (w : World) (n : Nat) : Calls Try.prog 13 #[.int .u32 id] (w.drewN n) fun e w' => e = .returned (.int .i64 (id / 1024)) ∧ ∃ k, w' = (w.drewN n).drewN k :=
  (rgen_of id (w.drewN n) h0 h1).mono fun _ _ ⟨he, ⟨k, hk⟩⟩ => ⟨he, k, hk⟩
/-- Is it in use? -/
def isLive (n : Nat) (G : Nat → Int) (U : Nat → Bool) (id : Int) : Prop := id % 1024 < n ∧ U (id % 1024).toNat = true ∧ G (id % 1024).toNat = id / 1024
def LiveRel (w : World) (n : Nat) (G : Nat → Int) (U : Nat → Bool) (id : Int) (i : Value) (W : World) : Prop :=
  ∃ x : Nat, i = .int .i64 x ∧ x ≤ n ∧ Below w.heap.size w W ∧ ∀ k, k < x → ¬ (U k = true ∧ (k : Int) = id % 1024 ∧ G k = id / 1024)
theorem live_more {w W W1 W2 : World} {n x : Nat} {G : Nat → Int} {U : Nat → Bool} {id : Int} (hB : Below w.heap.size w W) (hno : ∀ k, k < x → ¬ (U k = true ∧ (k : Int) = id % 1024 ∧ G k = id / 1024)) (h1 : Below W.heap.size W W1) (h2 : Below W1.heap.size W1 W2) (hx : x < n) (hc : ¬ (U x = true ∧ (x : Int) = id % 1024 ∧ G x = id / 1024)) :
    LiveRel w n G U id (.int .i64 ((x : Int) + 1)) W2 := by
  refine ⟨x + 1, by simp, hx, (hB.trans (h1.mono hB.size)).trans (h2.mono (Nat.le_trans hB.size h1.size)), fun k hk => ?_⟩
  by_cases e : k = x
  · rw [e]; exact hc
  · exact hno k (by omega)
theorem rlive_nil (id : Int) (w : World) : Calls Try.prog 24 #[.pointer none, .int .u32 id] w fun e w' => e = .returned (.bool false) ∧ w = w' := by
  go_enter Try.func24, Try.ntmps24
  go_wp2
  go_ret
  exact ⟨rfl, rfl⟩
set_option maxHeartbeats 4000000 in
set_option maxRecDepth 100000 in
theorem rlive_calls {w : World} {B rb lb n : Nat} {first clock : Int} {G : Nat → Int} {U : Nat → Bool} {F : Nat → Int} (h : RLies w B rb lb first n G U F clock) (hn : n ≤ 1024) (id : Int) (i0 : 0 ≤ id) (i1 : id < 4294967296) :
    Calls Try.prog 24 #[.pointer (some ⟨rb, 0, none⟩), .int .u32 id] w fun e w' => ∃ r : Bool, e = .returned (.bool r) ∧ (r = true ↔ isLive n G U id) ∧ Below w.heap.size w w' := by
  obtain ⟨c0, c1, c2⟩ := r_cells h
  have HX := Aside0.mk h
  clear h c0 c2
  go_enter Try.func24, Try.ntmps24
  go_wp2
  go_loopw [14] (fun i W => LiveRel w n G U id i W) (fun i _ => n - (intOf i).toNat)
  case atStart => exact ⟨0, rfl, by omega, Below.refl _ _, fun k hk => absurd hk (by omega)⟩
  case round =>
    obtain ⟨x, rfl, hx, hB, hno⟩ := hrel
    have HB := Aside0.mk hB
    have HN := Aside0.mk hno
    have HY := Aside0.mk (r_below HX.out hB)
    clear hB hno
    by_cases hend : x < n
    · obtain ⟨e0, e1, e2⟩ := r_at HY.out x hend
      have d0 : decide ((x : Int) < (n : Int)) = true := decide_eq_true (by omega)
      have hxb : (x : Int) ≤ 1024 := by omega
      have hx2 : (x : Int) < (n : Int) := by omega
      go_wp2
      obtain ⟨f0, f1, f2, hb1⟩ := one_at wr (G x) (U x) (F x)
      have HB1 := Aside0.mk hb1
      have HS := Aside0.mk (rslot_q id i0 i1)
      have HG := Aside0.mk (rgen_q id i0 i1)
      generalize wr.alloc (.cells #[.int .i64 (G x), .bool (U x), .int .i64 (F x)] 65) = W1 at f0 f1 f2 HB1 ⊢
      obtain ⟨s, hs⟩ : ∃ s, id % 1024 = s := ⟨_, rfl⟩
      obtain ⟨q, hq⟩ : ∃ q, id / 1024 = q := ⟨_, rfl⟩
      have HSE := Aside0.mk hs
      have HQE := Aside0.mk hq
      rw [hs] at HS
      rw [hq] at HG
      clear hb1 e0 e1 e2 c1 hs hq
      by_cases hu : U x = true
      · rw [hu] at f1 ⊢
        by_cases h2 : (x : Int) = s
        · have de : decide ((x : Int) = s) = true := decide_eq_true h2
          have de2 : ((x : Int) == s) = true := by rw [beq_iff_eq]; exact h2
          by_cases h3 : G x = q
          · have dg : decide (G x = q) = true := decide_eq_true h3
            have dg2 : (G x == q) = true := by rw [beq_iff_eq]; exact h3
            have HP := Aside0.mk (show isLive n G U id from ⟨by have := HSE.out; omega, by have := HSE.out; rw [show (id % 1024).toNat = x by omega]; exact hu, by have := HSE.out; rw [show (id % 1024).toNat = x by omega, HQE.out]; exact h3⟩)
            clear h2 h3
            go_quiet (first | (go_at_call 11; refine Calls.quiet_of (HS.out _ _)) | (go_at_call 13; refine Calls.quiet_of (HG.out _ _)))
            go_wp2
            go_ret
            exact ⟨true, rfl, ⟨fun _ => HP.out, fun _ => rfl⟩, HB.out.trans ((HB1.out.trans (Below.mono (Drawn0.below ⟨⟨_, rfl⟩⟩) HB1.out.size)).mono HB.out.size)⟩
          · have dg : decide (G x = q) = false := decide_eq_false h3
            have dg2 : (G x == q) = false := by rw [beq_eq_false_iff_ne]; exact h3
            have HP := Aside0.mk (show ¬ (U x = true ∧ (x : Int) = id % 1024 ∧ G x = id / 1024) from fun e => h3 (by rw [← HQE.out]; exact e.2.2))
            clear h2 h3
            go_quiet (first | (go_at_call 11; refine Calls.quiet_of (HS.out _ _)) | (go_at_call 13; refine Calls.quiet_of (HG.out _ _)))
            go_wp2
            go_roundw
            case rel => exact live_more HB.out HN.out HB1.out (Drawn0.below ⟨⟨_, rfl⟩⟩) hend HP.out
            case measure => simp [intOf]; omega
        · have de : decide ((x : Int) = s) = false := decide_eq_false h2
          have de2 : ((x : Int) == s) = false := by rw [beq_eq_false_iff_ne]; exact h2
          have HP := Aside0.mk (show ¬ (U x = true ∧ (x : Int) = id % 1024 ∧ G x = id / 1024) from fun e => h2 (by rw [← HSE.out]; exact e.2.1))
          clear h2
          go_quiet (first | (go_at_call 11; refine Calls.quiet_of (HS.out _ _)) | (go_at_call 13; refine Calls.quiet_of (HG.out _ _)))
          go_wp2
          go_roundw
          case rel => exact live_more HB.out HN.out HB1.out (Drawn0.below ⟨⟨_, rfl⟩⟩) hend HP.out
          case measure => simp [intOf]; omega
      · have hu2 : U x = false := by cases h : U x <;> simp_all
        have HP := Aside0.mk (show ¬ (U x = true ∧ (x : Int) = id % 1024 ∧ G x = id / 1024) from fun e => hu e.1)
        rw [hu2] at f1 ⊢
        go_quiet (first | (go_at_call 11; refine Calls.quiet_of (HS.out _ _)) | (go_at_call 13; refine Calls.quiet_of (HG.out _ _)))
        go_wp2
        go_roundw
        case rel => exact live_more HB.out HN.out HB1.out (Drawn0.below ⟨⟨_, rfl⟩⟩) hend HP.out
        case measure => simp [intOf]; omega
    · have d0 : decide ((x : Int) < (n : Int)) = false := decide_eq_false (by omega)
      have d2 : decide (x < n) = false := decide_eq_false (by omega)
      go_wp2
      go_ret
      refine ⟨false, rfl, ⟨fun e => (by cases e), fun ⟨h1, h2, h3⟩ => ?_⟩, HB.out⟩
      exact absurd ⟨h2, by omega, h3⟩ (HN.out (id % 1024).toNat (by omega))
end Go.Proofs.Ytehfbnpibimmiaa.Ref
