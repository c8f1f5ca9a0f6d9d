/- Plain lemmas on whole numbers for the fixed-point statements: the two ways to a square root (bit by bit, by halves) both come to the greatest number whose square is not above; wraps that change nothing within their bounds. No conditions but those stated. -/
import Derived.Test.YtijbhfclebijgaaWMore
import Derived.Laws.BitsLemmas
namespace Go.Proofs.Ytijbhfclebijgaa.Aid
open Go.RowKit Go.Proofs.YtijbhfclebijgaaW.PrintMore Go.Proofs.YtijbhfclebijgaaW.PrintWords

theorem wu64 (n : Int) : IntKind.u64.wrap n = n % 18446744073709551616 := by simp [IntKind.wrap, IntKind.bits, IntKind.signed]
theorem wu64_in (n : Int) (h0 : 0 ≤ n) (h1 : n < 18446744073709551616) : IntKind.u64.wrap n = n := by rw [wu64]; omega
theorem w64_in (n : Int) (h0 : -9223372036854775808 ≤ n) (h1 : n < 9223372036854775808) : wrap64 n = n := by unfold wrap64; omega
theorem w32_in (n : Int) (h0 : -2147483648 ≤ n) (h1 : n < 2147483648) : wrap32 n = n := by unfold wrap32; omega

theorem i32_bounds {a : Int} (h : (Lit.int .i32 a).wf = true) : -2147483648 ≤ a ∧ a < 2147483648 := by
  simp only [Lit.wf, IntKind.min, IntKind.max, IntKind.signed, IntKind.bits, Bool.and_eq_true, decide_eq_true_eq, if_true] at h
  omega
theorem u64_bounds {a : Int} (h : (Lit.int .u64 a).wf = true) : 0 ≤ a ∧ a < 18446744073709551616 := by
  simp [Lit.wf, IntKind.min, IntKind.max, IntKind.signed, IntKind.bits] at h
  omega
theorem i64_bounds {a : Int} (h : (Lit.int .i64 a).wf = true) : -9223372036854775808 ≤ a ∧ a < 9223372036854775808 := by
  simp only [Lit.wf, IntKind.min, IntKind.max, IntKind.signed, IntKind.bits, Bool.and_eq_true, decide_eq_true_eq, if_true] at h
  omega

theorem pow_pos' (i : Nat) : (0 : Int) < 2 ^ i := Int.pow_pos (by decide)
theorem pow_le (i j : Nat) (h : i ≤ j) : (2 : Int) ^ i ≤ 2 ^ j := by
  have := Nat.pow_le_pow_right (show 0 < 2 by decide) h
  exact_mod_cast this

theorem or_bit (out : Int) (i : Nat) (hi : i ≤ 31) (h0 : 0 ≤ out) (h1 : out < 4294967296) (hm : out % 2 ^ (i + 1) = 0) :
    Go.bits .or .u64 out (shl .u64 1 (i : Int)) = out + 2 ^ i := by
  have hp := pow_pos' i
  have hl : (2 : Int) ^ i ≤ 2 ^ 31 := pow_le i 31 hi
  have hs : shl .u64 1 (i : Int) = 2 ^ i := by
    unfold shl
    have : min (i : Int).toNat IntKind.u64.bits = i := by simp [IntKind.bits]; omega
    rw [this, wu64_in _ (by omega) (by omega)]; omega
  rw [hs]
  refine bits_join .u64 64 (by decide) (fun n a b => wu64_in n a (by omega)) (i + 1) out (2 ^ i) h0 hm (by omega) (by omega) ?_ (by omega)
  rw [Int.pow_succ]; omega

theorem sq_le {a b : Int} (h0 : 0 ≤ a) (h : a ≤ b) : a * a ≤ b * b := Int.mul_le_mul h h h0 (by omega)
theorem sq_bound {a : Int} (h0 : 0 ≤ a) (h : a < 4294967296) : 0 ≤ a * a ∧ a * a < 18446744073709551616 := by
  have := sq_le h0 (show a ≤ 4294967295 by omega)
  exact ⟨Int.mul_nonneg h0 h0, by omega⟩
theorem root_one {n r s : Int} (h0 : 0 ≤ r) (h1 : 0 ≤ s) (hr : r * r ≤ n) (hr' : n < (r + 1) * (r + 1)) (hs : s * s ≤ n) (hs' : n < (s + 1) * (s + 1)) : r = s := by
  rcases Int.lt_trichotomy r s with h | h | h
  · have := sq_le (show 0 ≤ r + 1 by omega) (show r + 1 ≤ s by omega); omega
  · exact h
  · have := sq_le (show 0 ≤ s + 1 by omega) (show s + 1 ≤ r by omega); omega

/-- The root of n. -/
def IsRoot (n r : Int) : Prop := 0 ≤ r ∧ r < 4294967296 ∧ r * r ≤ n ∧ n < (r + 1) * (r + 1)

theorem bitwise (F : Nat → Int → Int → Int → Option Int)
    (hF : ∀ k x0 x3 x4, F (k + 1) x0 x3 x4 = if x4 ≥ 0 then (if 0 ≤ x4 then (if (IntKind.u64.wrap ((Go.bits .or .u64 x3 (shl .u64 1 x4)) * (Go.bits .or .u64 x3 (shl .u64 1 x4)))) ≤ x0 then (F k x0 (Go.bits .or .u64 x3 (shl .u64 1 x4)) (wrap64 (x4 - 1))) else (F k x0 x3 (wrap64 (x4 - 1)))) else (none)) else (some ((x3) % 4294967296)))
    (n : Int) : ∀ (i : Nat) (k : Nat) (out : Int), i ≤ 32 → i < k → 0 ≤ out → out + 2 ^ i ≤ 4294967296 → out % 2 ^ i = 0 → out * out ≤ n → n < (out + 2 ^ i) * (out + 2 ^ i) →
      ∃ r, F k n out ((i : Int) - 1) = some r ∧ IsRoot n r := by
  intro i
  induction i with
  | zero =>
    intro k out _ hk h0 h1 _ hl hu
    obtain ⟨k, rfl⟩ : ∃ m, k = m + 1 := ⟨k - 1, by omega⟩
    refine ⟨out, ?_, h0, by simp at h1; omega, hl, by simpa using hu⟩
    rw [hF, if_neg (by simp)]
    have : out % 4294967296 = out := by simp at h1; omega
    rw [this]
  | succ i ih =>
    intro k out hi hk h0 h1 hm hl hu
    obtain ⟨k, rfl⟩ : ∃ m, k = m + 1 := ⟨k - 1, by omega⟩
    have hp := pow_pos' i
    have hs : (2 : Int) ^ (i + 1) = 2 ^ i * 2 := Int.pow_succ ..
    have ho := or_bit out i (by omega) h0 (by omega) hm
    have hm' : out % 2 ^ i = 0 := by
      have hd : (2 : Int) ^ i ∣ out := Int.dvd_trans ⟨2, hs⟩ (Int.dvd_of_emod_eq_zero hm)
      exact Int.emod_eq_zero_of_dvd hd
    have hb := sq_bound (a := out + 2 ^ i) (by omega) (by omega)
    have hi1 : ((i + 1 : Nat) : Int) - 1 = (i : Int) := by omega
    have hw : wrap64 ((i : Int) - 1) = (i : Int) - 1 := w64_in _ (by omega) (by omega)
    rw [hi1, hF, if_pos (by omega), if_pos (by omega), ho, wu64_in _ hb.1 hb.2, hw]
    by_cases hc : (out + 2 ^ i) * (out + 2 ^ i) ≤ n
    · rw [if_pos hc]
      refine ih k (out + 2 ^ i) (by omega) (by omega) (by omega) (by omega) ?_ hc ?_
      · rw [Int.add_emod, hm', Int.emod_self]; rfl
      · have : out + 2 ^ i + 2 ^ i = out + 2 ^ (i + 1) := by omega
        rw [this]; exact hu
    · rw [if_neg hc]
      exact ih k out (by omega) (by omega) h0 (by omega) hm' hl (by omega)

theorem bitwise_root (F : Nat → Int → Int → Int → Option Int)
    (hF : ∀ k x0 x3 x4, F (k + 1) x0 x3 x4 = if x4 ≥ 0 then (if 0 ≤ x4 then (if (IntKind.u64.wrap ((Go.bits .or .u64 x3 (shl .u64 1 x4)) * (Go.bits .or .u64 x3 (shl .u64 1 x4)))) ≤ x0 then (F k x0 (Go.bits .or .u64 x3 (shl .u64 1 x4)) (wrap64 (x4 - 1))) else (F k x0 x3 (wrap64 (x4 - 1)))) else (none)) else (some ((x3) % 4294967296)))
    (n : Int) (h0 : 0 ≤ n) (h1 : n < 18446744073709551616) : ∃ r, F 64 n 0 31 = some r ∧ IsRoot n r :=
  bitwise F hF n 32 64 0 (by omega) (by omega) (by omega) (by simp) (by simp) (by omega) (by simp; omega)

theorem halves (F : Nat → Int → Int → Int → Option Int)
    (hF : ∀ k x0 x3 x4, F (k + 1) x0 x3 x4 = if (IntKind.u64.wrap (x4 - x3)) > 1 then (if (IntKind.u64.wrap ((IntKind.u64.wrap (Int.tdiv (IntKind.u64.wrap (x3 + x4)) 2)) * (IntKind.u64.wrap (Int.tdiv (IntKind.u64.wrap (x3 + x4)) 2)))) ≤ x0 then (F k x0 (IntKind.u64.wrap (Int.tdiv (IntKind.u64.wrap (x3 + x4)) 2)) x4) else (F k x0 x3 (IntKind.u64.wrap (Int.tdiv (IntKind.u64.wrap (x3 + x4)) 2)))) else (some ((x3) % 4294967296)))
    (n : Int) : ∀ (i : Nat) (k : Nat) (lo : Int), i ≤ 32 → i < k → 0 ≤ lo → lo + 2 ^ i ≤ 4294967296 → lo * lo ≤ n → n < (lo + 2 ^ i) * (lo + 2 ^ i) →
      ∃ r, F k n lo (lo + 2 ^ i) = some r ∧ IsRoot n r := by
  intro i
  induction i with
  | zero =>
    intro k lo _ hk h0 h1 hl hu
    obtain ⟨k, rfl⟩ : ∃ m, k = m + 1 := ⟨k - 1, by omega⟩
    refine ⟨lo, ?_, h0, by simp at h1; omega, hl, by simpa using hu⟩
    have e : lo + 2 ^ 0 - lo = 1 := by simp; omega
    rw [hF, e, if_neg (by rw [wu64_in _ (by omega) (by omega)]; omega)]
    have : lo % 4294967296 = lo := by simp at h1; omega
    rw [this]
  | succ i ih =>
    intro k lo hi hk h0 h1 hl hu
    obtain ⟨k, rfl⟩ : ∃ m, k = m + 1 := ⟨k - 1, by omega⟩
    have hp := pow_pos' i
    have hs : (2 : Int) ^ (i + 1) = 2 ^ i * 2 := Int.pow_succ ..
    have hb := sq_bound (a := lo + 2 ^ i) (by omega) (by omega)
    have e : lo + 2 ^ (i + 1) - lo = 2 ^ (i + 1) := by omega
    have em : IntKind.u64.wrap (Int.tdiv (IntKind.u64.wrap (lo + (lo + 2 ^ (i + 1)))) 2) = lo + 2 ^ i := by
      rw [wu64_in (lo + (lo + 2 ^ (i + 1))) (by omega) (by omega), Int.tdiv_eq_ediv_of_nonneg (by omega)]
      rw [wu64_in _ (by omega) (by omega)]; omega
    rw [hF, e, if_pos (by rw [wu64_in _ (by omega) (by omega)]; omega), em, wu64_in _ hb.1 hb.2]
    by_cases hc : (lo + 2 ^ i) * (lo + 2 ^ i) ≤ n
    · rw [if_pos hc]
      have : lo + 2 ^ (i + 1) = (lo + 2 ^ i) + 2 ^ i := by omega
      rw [this] at hu ⊢
      exact ih k (lo + 2 ^ i) (by omega) (by omega) (by omega) (by omega) hc hu
    · rw [if_neg hc]
      exact ih k lo (by omega) (by omega) h0 (by omega) hl (by omega)

theorem halves_root (F : Nat → Int → Int → Int → Option Int)
    (hF : ∀ k x0 x3 x4, F (k + 1) x0 x3 x4 = if (IntKind.u64.wrap (x4 - x3)) > 1 then (if (IntKind.u64.wrap ((IntKind.u64.wrap (Int.tdiv (IntKind.u64.wrap (x3 + x4)) 2)) * (IntKind.u64.wrap (Int.tdiv (IntKind.u64.wrap (x3 + x4)) 2)))) ≤ x0 then (F k x0 (IntKind.u64.wrap (Int.tdiv (IntKind.u64.wrap (x3 + x4)) 2)) x4) else (F k x0 x3 (IntKind.u64.wrap (Int.tdiv (IntKind.u64.wrap (x3 + x4)) 2)))) else (some ((x3) % 4294967296)))
    (n : Int) (h0 : 0 ≤ n) (h1 : n < 18446744073709551616) : ∃ r, F 64 n 0 4294967296 = some r ∧ IsRoot n r :=
  halves F hF n 32 64 0 (by omega) (by omega) (by omega) (by simp) (by omega) (by simp; omega)

/-- The square of an i32 fits. -/
theorem sq_i32 {x : Int} (h0 : -2147483648 ≤ x) (h1 : x < 2147483648) : 0 ≤ x * x ∧ x * x ≤ 4611686018427387904 := by
  have : x * x = (x.natAbs : Int) * x.natAbs := by
    rcases Int.natAbs_eq x with h | h <;> (rw [h]; simp [Int.neg_mul_neg])
  rw [this]
  have hb : (x.natAbs : Int) ≤ 2147483648 := by omega
  have := sq_le (by omega) hb
  exact ⟨Int.mul_nonneg (by omega) (by omega), by omega⟩
theorem sum_sq {x y : Int} (h0 : -2147483648 ≤ x) (h1 : x < 2147483648) (h2 : -2147483648 ≤ y) (h3 : y < 2147483648) :
    IntKind.u64.wrap ((IntKind.u64.wrap (wrap64 ((wrap64 x) * (wrap64 x)))) + (IntKind.u64.wrap (wrap64 ((wrap64 y) * (wrap64 y))))) = x * x + y * y ∧ 0 ≤ x * x + y * y ∧ x * x + y * y < 18446744073709551616 := by
  have a := sq_i32 h0 h1
  have b := sq_i32 h2 h3
  rw [w64_in x (by omega) (by omega), w64_in y (by omega) (by omega), w64_in (x * x) (by omega) (by omega), w64_in (y * y) (by omega) (by omega), wu64_in (x * x) (by omega) (by omega), wu64_in (y * y) (by omega) (by omega)]
  refine ⟨wu64_in _ (by omega) (by omega), by omega, by omega⟩

end Go.Proofs.Ytijbhfclebijgaa.Aid
