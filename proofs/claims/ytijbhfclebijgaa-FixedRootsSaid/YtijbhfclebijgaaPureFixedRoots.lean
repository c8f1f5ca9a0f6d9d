/- FixedRoots answers true at any number of 64 bits and any way of two numbers of 32 bits: the root bit by bit is the root by halves, and its square is the greatest that is not above. No conditions. -/
import Derived.Test.YtijbhfclebijgaaPFixedRootsx1
import Derived.Test.YtijbhfclebijgaaAid
namespace Go.Proofs.Ytijbhfclebijgaa.Pure
open Go.RowKit Go.Proofs.Ytijbhfclebijgaa.PFixedRoots Go.Proofs.YtijbhfclebijgaaW.PrintWords Go.Proofs.YtijbhfclebijgaaW.PrintLast Go.Proofs.YtijbhfclebijgaaW.PrintMore Go.Proofs.Ytijbhfclebijgaa.Aid

theorem awake64 : pinnacelaw04_awake.f 64 = some true := by decide +kernel

theorem root64 (n : Int) (h0 : 0 ≤ n) (h1 : n < 18446744073709551616) : ∃ r, fixed_Root.f 64 n = some r ∧ IsRoot n r :=
  bitwise_root fixed_Root.l0 (fun _ _ _ _ => rfl) n h0 h1
theorem len64 (x y : Int) (h0 : -2147483648 ≤ x) (h1 : x < 2147483648) (h2 : -2147483648 ≤ y) (h3 : y < 2147483648) :
    ∃ r, fixed_Len.f 64 x y = some (mn r 2147483647) ∧ IsRoot (x * x + y * y) r := by
  obtain ⟨e, a, b⟩ := sum_sq h0 h1 h2 h3
  obtain ⟨r, hr, hi⟩ := root64 _ a b
  have h00 := hi.1
  have h01 := hi.2.1
  refine ⟨r, ?_, hi⟩
  unfold fixed_Len.f fixed_keep.f
  rw [e, hr]
  simp only [Option.bind_some]
  rw [w64_in r (by omega) (by omega)]
  have em : mx r (-2147483648) = r := by unfold mx; rw [if_neg (by omega)]
  rw [em]

theorem ref_root64 (n : Int) (h0 : 0 ≤ n) (h1 : n < 18446744073709551616) : ∃ r, pinnaceref04_Root.f 64 n = some r ∧ IsRoot n r :=
  halves_root pinnaceref04_Root.l0 (fun _ _ _ _ => rfl) n h0 h1
theorem ref_len64 (x y : Int) (h0 : -2147483648 ≤ x) (h1 : x < 2147483648) (h2 : -2147483648 ≤ y) (h3 : y < 2147483648) :
    ∃ r, pinnaceref04_Len.f 64 x y = some (mn r 2147483647) ∧ IsRoot (x * x + y * y) r := by
  obtain ⟨e, a, b⟩ := sum_sq h0 h1 h2 h3
  obtain ⟨r, hr, hi⟩ := ref_root64 _ a b
  have h00 := hi.1
  have h01 := hi.2.1
  refine ⟨r, ?_, hi⟩
  unfold pinnaceref04_Len.f pinnaceref04_Keep.f
  rw [e, hr]
  simp only [Option.bind_some]
  rw [w64_in r (by omega) (by omega), if_neg (by omega)]
  unfold mn
  by_cases h : r > 2147483647
  · rw [if_pos h, if_pos (by omega)]; rfl
  · rw [if_neg h, if_neg (by omega), w32_in r (by omega) (by omega)]; rfl
theorem same_root {n r s : Int} (hr : IsRoot n r) (hs : IsRoot n s) : r = s := root_one hr.1 hs.1 hr.2.2.1 hr.2.2.2 hs.2.2.1 hs.2.2.2

theorem FixedRoots : pinnacelaw04_FixedRoots.Pure := by
  intro n x y wn wx wy
  obtain ⟨n0, n1⟩ := u64_bounds wn
  obtain ⟨x0, x1⟩ := i32_bounds wx
  obtain ⟨y0, y1⟩ := i32_bounds wy
  obtain ⟨r, hr, ir⟩ := root64 n n0 n1
  obtain ⟨s, hs, is⟩ := ref_root64 n n0 n1
  obtain ⟨l, hl, il⟩ := len64 x y x0 x1 y0 y1
  obtain ⟨m, hm, im⟩ := ref_len64 x y x0 x1 y0 y1
  obtain rfl := same_root ir is
  obtain rfl := same_root il im
  refine ⟨64, ?_⟩
  unfold pinnacelaw04_FixedRoots.f
  rw [awake64, hr, hs, hl, hm]
  simp only [Option.bind_some, if_true]
  obtain ⟨h0, h1, h2, h3⟩ := ir
  have hb := sq_bound h0 h1
  rw [wu64_in r h0 (by omega), wu64_in (r * r) hb.1 hb.2, if_pos h2]
  by_cases h : r = 4294967295
  · rw [if_pos h]
  · have hb' := sq_bound (a := r + 1) (by omega) (by omega)
    rw [if_neg h, wu64_in (r + 1) (by omega) (by omega), wu64_in _ hb'.1 hb'.2]
    simp only [gt_iff_lt, h3, decide_true]

end Go.Proofs.Ytijbhfclebijgaa.Pure
