/- Contracts of the slots' Live (function 20), Len (18), Room (17), Free (16). -/
import Derived.Test.YtehfbnpibimmiaaTake
namespace Go.Proofs.Ytehfbnpibimmiaa.Live
open Go.RowKit Go.Proofs.YtehfbnpibimmiaaW.PrintWords Go.Proofs.YtehfbnpibimmiaaW.PrintLast Go.Proofs.YtehfbnpibimmiaaW.PrintMore Go.Proofs.Ytehfbnpibimmiaa.Lie Go.Proofs.Ytehfbnpibimmiaa.Use Go.Proofs.Ytehfbnpibimmiaa.Take

/-- Is it in use? -/
def _root_.Go.Proofs.Ytehfbnpibimmiaa.Lie.M.live (m : M) (id : Int) : Bool :=
  if id % 1024 < (m.gen.length : Int) then (if m.used.getD (id % 1024).toNat false = true then m.gen.getD (id % 1024).toNat 0 == id / 1024 else false) else false

theorem live_nil (id : Int) (w : World) : Calls Try.prog 20 #[.pointer none, .int .u32 id] w fun e w' => e = .returned (.bool false) ∧ Drawn0 w w' := by
  go_enter Try.func20, Try.ntmps20
  go_wp2
  go_quiet (fail)
  go_wp2
  go_ret
  exact ⟨rfl, ⟨⟨_, rfl⟩⟩⟩
theorem slot_q (id : Int) (h0 : 0 ≤ id) (w : World) (n : Nat) : Calls Try.prog 10 #[.int .u32 id] (w.drewN n) fun e w' => e = .returned (.int .i64 (id % 1024)) ∧ ∃ k, w' = (w.drewN n).drewN k :=
  (slot_of id (w.drewN n) h0).mono fun _ _ ⟨he, ⟨k, hk⟩⟩ => ⟨he, k, hk⟩
theorem gen_q (id : Int) (h0 : 0 ≤ id) (h1 : id < 4294967296) (w : World) (n : Nat) : Calls Try.prog 12 #[.int .u32 id] (w.drewN n) fun e w' => e = .returned (.int .i64 (id / 1024)) ∧ ∃ k, w' = (w.drewN n).drewN k :=
  (gen_of id (w.drewN n) h0 h1).mono fun _ _ ⟨he, ⟨k, hk⟩⟩ => ⟨he, k, hk⟩

set_option maxHeartbeats 4000000 in
set_option maxRecDepth 100000 in
theorem live_calls {w : World} {B sb gb ub : Nat} {fv : Value} {m : M} (h : Lies w B sb gb ub fv m) (id : Int) (i0 : 0 ≤ id) (i1 : id < 4294967296) (hl : m.used.length = m.gen.length) :
    Calls Try.prog 20 #[.pointer (some ⟨sb, 0, none⟩), .int .u32 id] w fun e w' => e = .returned (.bool (m.live id)) ∧ Drawn0 w w' := by
  obtain ⟨c0, c1, c2, c3, c4, c5⟩ := cells_of h
  have HX := Aside0.mk h
  obtain ⟨s, hs⟩ := Int.eq_ofNat_of_zero_le (show 0 ≤ id % 1024 by omega)
  have HS := Aside0.mk (show ∀ (w : World) (n : Nat), Calls Try.prog 10 #[.int .u32 id] (w.drewN n) fun e w' => e = .returned (.int .i64 (s : Int)) ∧ ∃ k, w' = (w.drewN n).drewN k from fun w n => by rw [← hs]; exact slot_q id i0 w n)
  have HG := Aside0.mk (gen_q id i0 i1)
  have hs0 : (0 : Int) ≤ (s : Int) := by omega
  unfold M.live
  rw [hs, Int.toNat_natCast]
  clear h hs c0 c3 c4 c5
  by_cases h1 : (s : Int) < (m.gen.length : Int)
  · have d1 : decide ((s : Int) < (m.gen.length : Int)) = true := decide_eq_true h1
    have hsl : s < m.gen.length := by omega
    have eg := gen_at HX.out s hsl
    have eu := used_at HX.out s (by omega)
    rw [if_pos h1]
    generalize m.gen.getD s 0 = g at eg ⊢
    cases hu : m.used.getD s false with
    | true =>
      rw [hu] at eu
      rw [if_pos rfl]
      clear hu hsl
      go_enter Try.func20, Try.ntmps20
      go_wp2
      go_quiet (first | (go_at_call 10; refine Calls.quiet_of (HS.out _ _)) | (go_at_call 12; refine Calls.quiet_of (HG.out _ _)))
      go_wp2
      go_ret
      exact ⟨rfl, ⟨⟨_, rfl⟩⟩⟩
    | false =>
      rw [hu] at eu
      rw [if_neg (by decide)]
      clear hu hsl
      go_enter Try.func20, Try.ntmps20
      go_wp2
      go_quiet (first | (go_at_call 10; refine Calls.quiet_of (HS.out _ _)) | (go_at_call 12; refine Calls.quiet_of (HG.out _ _)))
      go_wp2
      go_ret
      exact ⟨rfl, ⟨⟨_, rfl⟩⟩⟩
  · have d1 : decide ((s : Int) < (m.gen.length : Int)) = false := decide_eq_false h1
    have d2 : decide (s < m.gen.length) = false := decide_eq_false (by omega)
    rw [if_neg h1]
    go_enter Try.func20, Try.ntmps20
    go_wp2
    go_quiet (first | (go_at_call 10; refine Calls.quiet_of (HS.out _ _)) | (go_at_call 12; refine Calls.quiet_of (HG.out _ _)))
    go_wp2
    go_ret
    exact ⟨rfl, ⟨⟨_, rfl⟩⟩⟩

theorem len_nil (w : World) : Calls Try.prog 18 #[.pointer none] w fun e w' => e = .returned (.int .i64 0) ∧ w = w' := by
  go_enter Try.func18, Try.ntmps18
  go_wp2
  go_ret
  exact ⟨rfl, rfl⟩
theorem len_calls {w : World} {B sb gb ub : Nat} {fv : Value} {m : M} (h : Lies w B sb gb ub fv m) : Calls Try.prog 18 #[.pointer (some ⟨sb, 0, none⟩)] w fun e w' => e = .returned (.int .i64 m.count) ∧ w = w' := by
  obtain ⟨c0, c1, c2, c3, c4, c5⟩ := cells_of h
  clear h c0 c1 c2 c3 c4
  go_enter Try.func18, Try.ntmps18
  go_wp2
  go_ret
  exact ⟨rfl, rfl⟩
theorem room_nil (w : World) : Calls Try.prog 17 #[.pointer none] w fun e w' => e = .returned (.int .i64 0) ∧ w = w' := by
  go_enter Try.func17, Try.ntmps17
  go_wp2
  go_ret
  exact ⟨rfl, rfl⟩
theorem room_calls {w : World} {B sb gb ub : Nat} {fv : Value} {m : M} (h : Lies w B sb gb ub fv m) (hb : m.gen.length ≤ 1024) (hf : m.free.length ≤ 100000) (f0 : 0 ≤ m.fresh) (f1 : m.fresh ≤ 100000) :
    Calls Try.prog 17 #[.pointer (some ⟨sb, 0, none⟩)] w fun e w' => e = .returned (.int .i64 ((m.free.length : Int) + m.gen.length - m.fresh)) ∧ Drawn0 w w' := by
  obtain ⟨c0, c1, c2, c3, c4, c5⟩ := cells_of h
  obtain ⟨A, c, rfl⟩ := free_slice h
  have l1 : (m.gen.length : Int) ≤ 1024 := by omega
  have l2 : (m.free.length : Int) ≤ 100000 := by omega
  clear h c0 c2 c5 hb hf
  go_enter Try.func17, Try.ntmps17
  go_wp2
  go_quiet (fail)
  go_wp2
  go_ret
  exact ⟨rfl, ⟨⟨_, rfl⟩⟩⟩
end Go.Proofs.Ytehfbnpibimmiaa.Live
