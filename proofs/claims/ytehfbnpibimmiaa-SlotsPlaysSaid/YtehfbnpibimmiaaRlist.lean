/- The contract of the reference's List (function 25): those in use, and how many could be taken. -/
import Derived.Test.YtehfbnpibimmiaaRefs
namespace Go.Proofs.Ytehfbnpibimmiaa.Rlist
open Go.RowKit Go.Proofs.YtehfbnpibimmiaaW.PrintWords Go.Proofs.YtehfbnpibimmiaaW.PrintLast Go.Proofs.YtehfbnpibimmiaaW.PrintMore Go.Proofs.Ytehfbnpibimmiaa.Lie Go.Proofs.Ytehfbnpibimmiaa.Use Go.Proofs.Ytehfbnpibimmiaa.Take Go.Proofs.Ytehfbnpibimmiaa.Live Go.Proofs.Ytehfbnpibimmiaa.Free Go.Proofs.Ytehfbnpibimmiaa.Awake Go.Proofs.Ytehfbnpibimmiaa.List Go.Proofs.Ytehfbnpibimmiaa.Inv Go.Proofs.Ytehfbnpibimmiaa.Ref Go.Proofs.Ytehfbnpibimmiaa.Refs

def rids (G : Nat → Int) (U : Nat → Bool) (x : Nat) : List Int := (List.range x).filterMap fun s => if U s = true then some (G s * 1024 + s) else none
theorem rids_used (G : Nat → Int) (U : Nat → Bool) (x : Nat) (h : U x = true) : rids G U (x + 1) = rids G U x ++ [G x * 1024 + (x : Int)] := by
  unfold rids
  rw [List.range_succ, List.filterMap_append]
  simp only [List.filterMap_cons, List.filterMap_nil, h, if_true]
theorem rids_not (G : Nat → Int) (U : Nat → Bool) (x : Nat) (h : U x = false) : rids G U (x + 1) = rids G U x := by
  unfold rids
  rw [List.range_succ, List.filterMap_append]
  simp only [List.filterMap_cons, List.filterMap_nil, h]
  simp
theorem rids_len (G : Nat → Int) (U : Nat → Bool) (x : Nat) : (rids G U x).length ≤ x := by
  unfold rids
  exact Nat.le_trans (List.length_filterMap_le _ _) (by simp)
/-- How many below x. -/
def cnt (p : Nat → Bool) : Nat → Nat
  | 0 => 0
  | x + 1 => cnt p x + if p x = true then 1 else 0
theorem cnt_le (p : Nat → Bool) : ∀ x, cnt p x ≤ x
  | 0 => Nat.le_refl _
  | x + 1 => by have := cnt_le p x; unfold cnt; split <;> omega
def free (G : Nat → Int) (U : Nat → Bool) (k : Nat) : Bool := !U k && decide (G k < 4194303)
theorem room_used (G : Nat → Int) (U : Nat → Bool) (x : Nat) (h : U x = true) : cnt (free G U) (x + 1) = cnt (free G U) x := by simp [cnt, free, h]
theorem room_more (G : Nat → Int) (U : Nat → Bool) (x : Nat) (h : U x = false) (hg : G x < 4194303) : cnt (free G U) (x + 1) = cnt (free G U) x + 1 := by simp [cnt, free, h, hg]
theorem room_worn (G : Nat → Int) (U : Nat → Bool) (x : Nat) (hg : ¬ G x < 4194303) : cnt (free G U) (x + 1) = cnt (free G U) x := by simp [cnt, free, hg]

theorem rlist_nil (w : World) : Calls Try.prog 25 #[.pointer none] w fun e w' => e = .returned (.tuple #[.slice none 0 0, .int .i64 0]) ∧ w = w' := by
  go_enter Try.func25, Try.ntmps25
  go_wp2
  go_ret2
  exact ⟨rfl, rfl⟩
def RLRel (w : World) (n : Nat) (G : Nat → Int) (U : Nat → Bool) (v r i : Value) (W : World) : Prop :=
  ∃ x : Nat, i = .int .i64 x ∧ r = .int .i64 (cnt (free G U) x : Nat) ∧ x ≤ n ∧ W.ownsRow w.heap.size 23 1 v (rids G U x).length (nums .u32 (rids G U x)) ∧ Below w.heap.size w W
theorem rappended {w wr w1 : World} {l : List Int} {v : Value} (nd : Nat) (hB : Below w.heap.size w wr) (ho : wr.ownsRow w.heap.size 23 1 v l.length (nums .u32 l)) (hg : (wr.drewN nd).grownBy w1 v.ownBlock) : Below w.heap.size w w1 :=
  (pw_below_drewN hB nd).grown hg (by have := hB.size; simpa using this) (own_base ho)
set_option maxHeartbeats 4000000 in
set_option maxRecDepth 100000 in
theorem rlist_calls {w : World} {B rb lb n : Nat} {first clock : Int} {G : Nat → Int} {U : Nat → Bool} {F : Nat → Int} (h : RLies w B rb lb first n G U F clock) (hn : n ≤ 1024) (hG : ∀ k, U k = true → 1 ≤ G k ∧ G k ≤ 4194303) :
    Calls Try.prog 25 #[.pointer (some ⟨rb, 0, none⟩)] w fun e w' => ∃ A c, e = .returned (.tuple #[.slice A (rids G U n).length c, .int .i64 (cnt (free G U) n : Nat)]) ∧ (rids G U n).length ≤ c ∧ Kd.C (Kd.int .u32) w' A (rids G U n).length (rids G U n) ∧ Below w.heap.size w w' := by
  obtain ⟨c0, c1, c2⟩ := r_cells h
  have HX := Aside0.mk h
  have HG := Aside0.mk hG
  clear h c0 c2 hG
  go_enter Try.func25, Try.ntmps25
  go_wp2
  go_loopw [4, 5, 17] (fun v r i W => RLRel w n G U v r i W) (fun _ _ i _ => n - (intOf i).toNat)
  case atStart => exact ⟨0, rfl, rfl, by omega, own_nil _ _ _ _, Below.refl _ _⟩
  case round =>
    obtain ⟨x, rfl, rfl, hx, ho, hB⟩ := hrel
    have HB := Aside0.mk hB
    have HO := Aside0.mk ho
    have HY := Aside0.mk (r_below HX.out hB)
    clear hB ho c1
    have c1 := (r_cells HY.out).2.1
    have hcl := cnt_le (free G U) x
    by_cases hend : x < n
    · obtain ⟨e0, e1, e2⟩ := r_at HY.out x hend
      have d0 : decide ((x : Int) < (n : Int)) = true := decide_eq_true (by omega)
      have hxb : (x : Int) ≤ 1024 := by omega
      have hx2 : (x : Int) < (n : Int) := by omega
      cases hu : U x with
      | true =>
        rw [hu] at e1
        obtain ⟨g1, g2⟩ := HG.out x hu
        have HI := Aside0.mk (rids_used G U x hu)
        have HR := Aside0.mk (room_used G U x hu)
        have HL := Aside0.mk (rids_len G U x)
        clear hu
        have hb1 := (one_at wr (G x) true (F x)).2.2.2
        have HB1 := Aside0.mk (HB.out.trans (hb1.mono HB.out.size))
        have HO1 := Aside0.mk (pw_own_below HO.out hb1)
        clear hb1
        go_wp2_with (first
          | (go_at_call 8; (with_reducible refine (rmake_ok _ _ _ (by omega) (by omega) g1 g2).mono ?_); rintro e w' ⟨rfl, ⟨nd, rfl⟩⟩; generalize wr.alloc (.cells #[.int .i64 (G x), .bool true, .int .i64 (F x)] 65) = W1 at HB1 HO1 ⊢)
          | (at_builtin; refine print_append_num (w0 := W1.drewN nd) w.heap.size rfl (.tmp 31) (.tmp 33) 41 23 .u32 4 rfl Try.underlying41 info23 (by decide) _ (rids G U x) _ rfl rfl (pw_own_below HO1.out (pw_below_drewN (Below.refl _ _) _)) (Below.refl _ _) (by have := HB1.out.size; simpa using this) (by have := HL.out; omega) ?_; intro v1 w1 hown _ hgr hat; have HN := Aside0.mk hown; have HM := Aside0.mk (rappended nd HB1.out HO1.out hgr); clear hown hgr hat))
        go_roundw
        case rel => exact ⟨x + 1, by simp, by rw [HR.out], hend, by rw [HI.out]; exact HN.out, HM.out⟩
        case measure => simp [intOf]; omega
      | false =>
        rw [hu] at e1
        have HI := Aside0.mk (rids_not G U x hu)
        have hb1 := (one_at wr (G x) false (F x)).2.2.2
        have HB1 := Aside0.mk (HB.out.trans (hb1.mono HB.out.size))
        have HO1 := Aside0.mk (pw_own_below HO.out hb1)
        clear hb1
        by_cases hg : G x < 4194303
        · have dg : decide (G x < 4194303) = true := decide_eq_true hg
          have HR := Aside0.mk (room_more G U x hu hg)
          clear hu
          go_wp2
          go_roundw
          case rel => exact ⟨x + 1, by simp, by rw [HR.out]; simp, hend, by rw [HI.out]; exact HO1.out, HB1.out⟩
          case measure => simp [intOf]; omega
        · have dg : decide (G x < 4194303) = false := decide_eq_false hg
          have HR := Aside0.mk (room_worn G U x hg)
          clear hu
          go_wp2
          go_roundw
          case rel => exact ⟨x + 1, by simp, by rw [HR.out], hend, by rw [HI.out]; exact HO1.out, HB1.out⟩
          case measure => simp [intOf]; omega
    · have d0 : decide ((x : Int) < (n : Int)) = false := decide_eq_false (by omega)
      have d2 : decide (x < n) = false := decide_eq_false (by omega)
      have hxe : x = n := by omega
      subst hxe
      obtain ⟨A, c, e1, hc, hr⟩ := reads_own HO.out
      subst e1
      have HR := Aside0.mk hr
      clear hr
      go_wp2
      go_ret2
      exact ⟨A, c, rfl, hc, HR.out, HB.out⟩
end Go.Proofs.Ytehfbnpibimmiaa.Rlist
