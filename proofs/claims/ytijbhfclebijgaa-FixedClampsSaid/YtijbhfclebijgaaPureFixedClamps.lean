/- FixedClamps answers true at any three numbers of 32 bits: clamping comes to the lower bound, the upper one, or the number. No conditions. -/
import Derived.Test.YtijbhfclebijgaaPFixedClampsx1
import Derived.Test.YtijbhfclebijgaaAid
namespace Go.Proofs.Ytijbhfclebijgaa.Pure
open Go.RowKit Go.Proofs.Ytijbhfclebijgaa.PFixedClamps Go.Proofs.YtijbhfclebijgaaW.PrintWords Go.Proofs.YtijbhfclebijgaaW.PrintLast Go.Proofs.YtijbhfclebijgaaW.PrintMore Go.Proofs.Ytijbhfclebijgaa.Aid

theorem awake64 : pinnacelaw04_awake.f 64 = some true := by decide +kernel

theorem FixedClamps : pinnacelaw04_FixedClamps.Pure := by
  intro a lo hi _ _ _
  refine ⟨64, ?_⟩
  unfold pinnacelaw04_FixedClamps.f
  rw [awake64]
  unfold fixed_Clamp.f
  by_cases h1 : a < lo
  · simp [h1]
  · by_cases h2 : a > hi
    · simp [h1, h2]
    · simp [h1, h2]

end Go.Proofs.Ytijbhfclebijgaa.Pure
