/- FixedOrder answers true at any three numbers of 32 bits: adding, taking away, the floor, and multiplying by what is not negative keep the order. No conditions. -/
import Derived.Test.YtijbhfclebijgaaPFixedOrderx1
import Derived.Test.YtijbhfclebijgaaAid
namespace Go.Proofs.Ytijbhfclebijgaa.Pure
open Go.RowKit Go.Proofs.Ytijbhfclebijgaa.PFixedOrder Go.Proofs.YtijbhfclebijgaaW.PrintWords Go.Proofs.YtijbhfclebijgaaW.PrintLast Go.Proofs.YtijbhfclebijgaaW.PrintMore Go.Proofs.Ytijbhfclebijgaa.Aid

theorem awake64 : pinnacelaw04_awake.f 64 = some true := by decide +kernel

theorem keep_mono {a b : Int} (h : a ≤ b) : mn (mx a (-2147483648)) 2147483647 ≤ mn (mx b (-2147483648)) 2147483647 := by
  unfold mn mx; (repeat' split) <;> omega
theorem tdiv_mono {a b : Int} (h : a ≤ b) : Int.tdiv a 256 ≤ Int.tdiv b 256 := Int.tdiv_le_tdiv (by decide) h
theorem mul_i32 {a b : Int} (a0 : -2147483648 ≤ a) (a1 : a < 2147483648) (b0 : 0 ≤ b) (b1 : b < 2147483648) : -4611686018427387904 ≤ a * b ∧ a * b ≤ 4611686018427387904 := by
  have h1 : a * b ≤ 2147483648 * b := Int.mul_le_mul_of_nonneg_right (by omega) b0
  have h2 : -2147483648 * b ≤ a * b := Int.mul_le_mul_of_nonneg_right (by omega) b0
  omega
theorem tdiv_small {n : Int} (h0 : -4611686018427387904 ≤ n) (h1 : n ≤ 4611686018427387904) : wrap64 (Int.tdiv n 256) = Int.tdiv n 256 := by
  have a := tdiv_mono h0
  have b := tdiv_mono h1
  have ea : Int.tdiv (-4611686018427387904) 256 = -18014398509481984 := by decide
  have eb : Int.tdiv 4611686018427387904 256 = 18014398509481984 := by decide
  exact w64_in _ (by omega) (by omega)

theorem ordered {a b c : Int} (h : a ≤ b) (a0 : -2147483648 ≤ a) (a1 : a < 2147483648) (b0 : -2147483648 ≤ b) (b1 : b < 2147483648) (c0 : -2147483648 ≤ c) (c1 : c < 2147483648) :
    pinnacelaw04_FixedOrder.j0 64 a b c = some true := by
  simp only [pinnacelaw04_FixedOrder.j0, fixed_Add.f, fixed_Sub.f, fixed_keep.f, fixed_Floor.f, Option.bind_some]
  rw [w64_in a (by omega) (by omega), w64_in b (by omega) (by omega), w64_in c (by omega) (by omega), w64_in (a + c) (by omega) (by omega), w64_in (b + c) (by omega) (by omega), w64_in (a - c) (by omega) (by omega), w64_in (b - c) (by omega) (by omega), w64_in (a / 256) (by omega) (by omega), w64_in (b / 256) (by omega) (by omega)]
  rw [if_neg (by have := keep_mono (show a + c ≤ b + c by omega); omega), if_neg (by have := keep_mono (show a - c ≤ b - c by omega); omega)]
  have hd : decide (a / 256 > b / 256) = false := by simp; omega
  rw [hd]
  simp only [pinnacelaw04_FixedOrder.j1, fixed_Mul.f, fixed_keep.f, Option.bind_some]
  by_cases hc : c < 0
  · simp [hc]
  · rw [if_neg (by decide), if_neg hc]
    rw [w64_in a (by omega) (by omega), w64_in b (by omega) (by omega), w64_in c (by omega) (by omega)]
    have ma := mul_i32 a0 a1 (show 0 ≤ c by omega) c1
    have mb := mul_i32 b0 b1 (show 0 ≤ c by omega) c1
    rw [w64_in (a * c) (by omega) (by omega), w64_in (b * c) (by omega) (by omega), tdiv_small ma.1 ma.2, tdiv_small mb.1 mb.2]
    have := keep_mono (tdiv_mono (Int.mul_le_mul_of_nonneg_right h (show 0 ≤ c by omega)))
    simp only [this, decide_true]

theorem FixedOrder : pinnacelaw04_FixedOrder.Pure := by
  intro a b c wa wb wc
  obtain ⟨a0, a1⟩ := i32_bounds wa
  obtain ⟨b0, b1⟩ := i32_bounds wb
  obtain ⟨c0, c1⟩ := i32_bounds wc
  refine ⟨64, ?_⟩
  unfold pinnacelaw04_FixedOrder.f
  rw [awake64]
  simp only [Option.bind_some, if_true]
  by_cases h : a > b
  · rw [if_pos h]; exact ordered (by omega) b0 b1 a0 a1 c0 c1
  · rw [if_neg h]; exact ordered (by omega) a0 a1 b0 b1 c0 c1

end Go.Proofs.Ytijbhfclebijgaa.Pure
