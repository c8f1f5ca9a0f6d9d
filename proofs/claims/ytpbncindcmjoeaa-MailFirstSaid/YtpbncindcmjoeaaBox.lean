/- Contracts of a mailbox's New, Len and Room (functions 7, 15 and 16). -/
import Derived.Test.YtpbncindcmjoeaaComm
import Derived.Test.YtpbncindcmjoeaaWMore
import Derived.WalkKit
import Derived.BigQuiet
import Derived.Deep.QuietTactic
namespace Go.Proofs.Ytpbncindcmjoeaa.Box
open Go.Conc Go.RowKit Go.Proofs.YtpbncindcmjoeaaW.PrintWords Go.Proofs.Ytpbncindcmjoeaa.Comm

theorem bytes2 : ∃ i, Try.prog.info? 2 = some i ∧ i.bytes = 8 := by
  have h : (Try.prog.info? 2).map (·.bytes) = some 8 := by kernel_rfl
  obtain ⟨i, hi, hb⟩ := Option.map_eq_some_iff.1 h
  exact ⟨i, hi, hb⟩
theorem mk (n : Nat) (hn : n ≤ 256) (w : World) : (Instr.makeChan 52 (.int .i64 n)).run Try.prog w = .ok (.chan (some w.heap.size)) (w.alloc (.chan n #[] false 0 0 false)) := by
  obtain ⟨i, hi, hb⟩ := bytes2
  simpa using run_makeChan (P := Try.prog) (w := w) Try.underlying52 hi .i64 n (by omega) (by rw [hb]; omega)
theorem len_run {w : World} {c n : Nat} {l : List Int} {s r : Nat} (hc : w.heap[c]? = some (chanOf n l s r)) (t : TypeId) : (Builtin.len_ #[52] t #[.chan (some c)]).run Try.prog w = .ok (.int .i64 l.length) w := by
  simp [Builtin.len_, run_underlying Try.underlying52, getObj, Sem.run, hc, chanOf, nums, goInt]

theorem new_bad (n : Int) (w : World) (h : n < 1 ∨ 256 < n) : Calls Try.prog 7 #[.int .i64 n] w fun e w' => e = .returned (.tuple #[.pointer none, .int .i64 1]) ∧ w' = w := by
  by_cases h1 : n < 1
  · have d : decide (n < 1) = true := decide_eq_true h1
    go_enter Try.func7, Try.ntmps7
    go_wp2
    go_ret2
    exact ⟨rfl, rfl⟩
  · have d : decide (n < 1) = false := decide_eq_false h1
    have d2 : decide (256 < n) = true := decide_eq_true (by omega)
    go_enter Try.func7, Try.ntmps7
    go_wp2
    go_ret2
    exact ⟨rfl, rfl⟩
theorem new_good (n : Nat) (w : World) (h1 : 1 ≤ n) (h2 : n ≤ 256) :
    Calls Try.prog 7 #[.int .i64 n] w fun e w' => e = .returned (.tuple #[.pointer (some ⟨w.heap.size + 1, 0, none⟩), .int .i64 0]) ∧ w' = (w.alloc (chanOf n [] 0 0)).alloc (boxObj w.heap.size) := by
  have d : decide ((n : Int) < 1) = false := decide_eq_false (by omega)
  have d2 : decide (256 < (n : Int)) = false := decide_eq_false (by omega)
  have hm := mk n h2
  go_enter Try.func7, Try.ntmps7
  go_wp2
  go_ret2
  exact ⟨rfl, rfl⟩
theorem len_nil (w : World) : Calls Try.prog 15 #[.pointer none] w fun e w' => e = .returned (.int .i64 0) ∧ w' = w := by
  go_enter Try.func15, Try.ntmps15
  go_wp2
  go_ret
  exact ⟨rfl, rfl⟩
theorem len_box (b c n : Nat) (l : List Int) (w : World) (s r : Nat) (hb : w.heap[b]? = some (boxObj c)) (hc : w.heap[c]? = some (chanOf n l s r)) :
    Calls Try.prog 15 #[.pointer (some ⟨b, 0, none⟩)] w fun e w' => e = .returned (.int .i64 l.length) ∧ w' = w := by
  have hbc : w.cell? ⟨b, 0, none⟩ = some (.chan (some c)) := by simp [World.cell?, hb, boxObj]
  have hl := len_run hc
  clear hb hc
  go_enter Try.func15, Try.ntmps15
  go_wp2
  go_ret
  exact ⟨rfl, rfl⟩
theorem room_nil (w : World) : Calls Try.prog 16 #[.pointer none] w fun e w' => e = .returned (.int .i64 0) ∧ w' = w := by
  go_enter Try.func16, Try.ntmps16
  go_wp2
  go_ret
  exact ⟨rfl, rfl⟩
theorem cap_run {w : World} {c n : Nat} {l : List Int} {s r : Nat} (hc : w.heap[c]? = some (chanOf n l s r)) (t : TypeId) : (Builtin.cap_ #[52] t #[.chan (some c)]).run Try.prog w = .ok (.int .i64 n) w := by
  simp [Builtin.cap_, run_underlying Try.underlying52, getObj, Sem.run, hc, chanOf, goInt]
theorem room_box (b c n : Nat) (l : List Int) (w : World) (s r : Nat) (hn : n ≤ 256) (hln : l.length ≤ n) (hb : w.heap[b]? = some (boxObj c)) (hc : w.heap[c]? = some (chanOf n l s r)) :
    Calls Try.prog 16 #[.pointer (some ⟨b, 0, none⟩)] w fun e w' => e = .returned (.int .i64 (n - l.length)) ∧ ∃ k, w' = w.drewN k := by
  have hbc : w.cell? ⟨b, 0, none⟩ = some (.chan (some c)) := by simp [World.cell?, hb, boxObj]
  have hl : ∀ k t, (Builtin.len_ #[52] t #[.chan (some c)]).run Try.prog (w.drewN k) = .ok (.int .i64 l.length) (w.drewN k) := fun k => len_run (w := w.drewN k) hc
  have hcap : ∀ k t, (Builtin.cap_ #[52] t #[.chan (some c)]).run Try.prog (w.drewN k) = .ok (.int .i64 n) (w.drewN k) := fun k => cap_run (w := w.drewN k) hc
  have hlb : (l.length : Int) ≤ 256 := by omega
  have hnb : (n : Int) ≤ 256 := by omega
  clear hb hc hn
  go_enter Try.func16, Try.ntmps16
  go_wp2
  go_quiet (fail)
  go_wp2
  go_ret
  exact ⟨rfl, _, rfl⟩
end Go.Proofs.Ytpbncindcmjoeaa.Box
