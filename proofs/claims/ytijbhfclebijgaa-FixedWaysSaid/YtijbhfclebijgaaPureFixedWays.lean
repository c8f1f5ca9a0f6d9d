/- FixedWays answers true at any way of two numbers of 32 bits: its length is at least either side (kept in) and at most both together, and the same either way round. No conditions. -/
import Derived.Test.YtijbhfclebijgaaPFixedWaysx1
import Derived.Test.YtijbhfclebijgaaAid
namespace Go.Proofs.Ytijbhfclebijgaa.Pure
open Go.RowKit Go.Proofs.Ytijbhfclebijgaa.PFixedWays Go.Proofs.YtijbhfclebijgaaW.PrintWords Go.Proofs.YtijbhfclebijgaaW.PrintLast Go.Proofs.YtijbhfclebijgaaW.PrintMore Go.Proofs.Ytijbhfclebijgaa.Aid

theorem awake64 : pinnacelaw04_awake.f 64 = some true := by decide +kernel

theorem root64 (n : Int) (h0 : 0 ≤ n) (h1 : n < 18446744073709551616) : ∃ r, fixed_Root.f 64 n = some r ∧ IsRoot n r :=
  bitwise_root fixed_Root.l0 (fun _ _ _ _ => rfl) n h0 h1
theorem len64 (x y : Int) (h0 : -2147483648 ≤ x) (h1 : x < 2147483648) (h2 : -2147483648 ≤ y) (h3 : y < 2147483648) :
    ∃ r, fixed_Len.f 64 x y = some (mn r 2147483647) ∧ IsRoot (x * x + y * y) r := by
  obtain ⟨e, a, b⟩ := sum_sq h0 h1 h2 h3
  obtain ⟨r, hr, hi⟩ := root64 _ a b
  have h00 := hi.1
  have h01 := hi.2.1
  refine ⟨r, ?_, hi⟩
  unfold fixed_Len.f fixed_keep.f
  rw [e, hr]
  simp only [Option.bind_some]
  rw [w64_in r (by omega) (by omega)]
  have em : mx r (-2147483648) = r := by unfold mx; rw [if_neg (by omega)]
  rw [em]

theorem sq_lt' {a b : Int} (h0 : 0 ≤ a) (h : a < b) : a * a < b * b := by
  have h1 := sq_le (show 0 ≤ a + 1 by omega) (show a + 1 ≤ b by omega)
  have h2 : (a + 1) * (a + 1) = a * a + a + a + 1 := by rw [Int.mul_add, Int.add_mul]; omega
  omega
theorem root_ge {n r a : Int} (h : IsRoot n r) (ha : a * a ≤ n) : a ≤ r := by
  apply Int.not_lt.1
  intro hlt
  have := sq_le (show 0 ≤ r + 1 by have := h.1; omega) (show r + 1 ≤ a by omega)
  have := h.2.2.2
  omega
theorem root_le {n r a : Int} (h : IsRoot n r) (h0 : 0 ≤ a) (ha : n ≤ a * a) : r ≤ a := by
  apply Int.not_lt.1
  intro hlt
  have := sq_lt' h0 hlt
  have := h.2.2.1
  omega
theorem same_root {n r s : Int} (hr : IsRoot n r) (hs : IsRoot n s) : r = s := root_one hr.1 hs.1 hr.2.2.1 hr.2.2.2 hs.2.2.1 hs.2.2.2
theorem abs_of {x : Int} (h0 : -2147483648 ≤ x) (h1 : x < 2147483648) : mx (wrap64 x) (wrap64 (-(wrap64 x))) = x.natAbs := by
  rw [w64_in x (by omega) (by omega), w64_in (-x) (by omega) (by omega)]
  unfold mx
  split <;> omega
theorem abs_sq (x : Int) : x * x = (x.natAbs : Int) * x.natAbs := by
  rcases Int.natAbs_eq x with h | h <;> (rw [h]; simp [Int.neg_mul_neg])

theorem FixedWays : pinnacelaw04_FixedWays.Pure := by
  intro x y wx wy
  obtain ⟨x0, x1⟩ := i32_bounds wx
  obtain ⟨y0, y1⟩ := i32_bounds wy
  obtain ⟨l, hl, il⟩ := len64 x y x0 x1 y0 y1
  obtain ⟨m, hm, im⟩ := len64 y x y0 y1 x0 x1
  rw [Int.add_comm] at im
  obtain rfl := same_root il im
  have l0 := il.1
  have l1 := il.2.1
  refine ⟨64, ?_⟩
  unfold pinnacelaw04_FixedWays.f
  rw [awake64, hl, hm, abs_of x0 x1, abs_of y0 y1]
  have ax := abs_sq x
  have ay := abs_sq y
  have px := Int.mul_nonneg (show (0 : Int) ≤ x.natAbs by omega) (show (0 : Int) ≤ x.natAbs by omega)
  have py := Int.mul_nonneg (show (0 : Int) ≤ y.natAbs by omega) (show (0 : Int) ≤ y.natAbs by omega)
  have pxy := Int.mul_nonneg (show (0 : Int) ≤ x.natAbs by omega) (show (0 : Int) ≤ y.natAbs by omega)
  have g1 := root_ge il (a := x.natAbs) (by omega)
  have g2 := root_ge il (a := y.natAbs) (by omega)
  have hsum : ((x.natAbs : Int) + y.natAbs) * (x.natAbs + y.natAbs) = (x.natAbs : Int) * x.natAbs + (x.natAbs : Int) * y.natAbs + ((x.natAbs : Int) * y.natAbs + (y.natAbs : Int) * y.natAbs) := by
    rw [Int.mul_add, Int.add_mul, Int.add_mul, Int.mul_comm (y.natAbs : Int) (x.natAbs : Int)]
  have g3 := root_le il (a := (x.natAbs : Int) + y.natAbs) (by omega) (by omega)
  simp only [Option.bind_some, if_true]
  have hmn : 0 ≤ mn l 2147483647 ∧ mn l 2147483647 ≤ 2147483647 := by unfold mn; split <;> omega
  rw [w64_in (mn l 2147483647) (by omega) (by omega), w64_in ((x.natAbs : Int) + y.natAbs) (by omega) (by omega)]
  rw [if_pos, if_pos]
  · simp
  · unfold mn; split <;> omega
  · unfold mn mx; (repeat' split) <;> omega

end Go.Proofs.Ytijbhfclebijgaa.Pure
