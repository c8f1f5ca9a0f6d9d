/- What the reference's quotient comes to, rounded toward 0, and the product, the quotient and the floor made of it: contracts of functions 28, 14, 11, 25, 24 and 23, for numbers of 32 bits (and of 64 bits where a plain number comes in). -/
import Derived.Test.YtijbhfclebijgaaSums
namespace Go.Proofs.Ytijbhfclebijgaa.Over
open Go.RowKit Go.Proofs.YtijbhfclebijgaaW.PrintWords Go.Proofs.YtijbhfclebijgaaW.PrintLast Go.Proofs.YtijbhfclebijgaaW.PrintMore Go.Proofs.Ytijbhfclebijgaa.Aid Go.Proofs.Ytijbhfclebijgaa.Sums
attribute [local go_sem] max2_int min2_int max_two min_two

theorem tdiv_b (a b : Int) (h0 : -4611686018427387904 ≤ a) (h1 : a ≤ 4611686018427387904) : -4611686018427387904 ≤ Int.tdiv a b ∧ Int.tdiv a b ≤ 4611686018427387904 := by
  have h : (Int.tdiv a b).natAbs ≤ a.natAbs := by
    rw [Int.natAbs_tdiv]; exact Nat.div_le_self _ _
  omega
theorem ret64 {k : IntKind} {a b : Int} (h : a = b) : Ending.returned (.int k a) = .returned (.int k b) := by rw [h]

set_option maxHeartbeats 8000000 in
set_option maxRecDepth 100000 in
theorem over_calls (a b : Int) (w : World) (h0 : -4611686018427387904 ≤ a) (h1 : a ≤ 4611686018427387904) (h2 : -4611686018427387904 ≤ b) (h3 : b ≤ 4611686018427387904) (hb : b ≠ 0) :
    Calls Try.prog 28 #[.int .i64 a, .int .i64 b] w fun e w' => e = .returned (.int .i64 (Int.tdiv a b)) ∧ Drawn0 w w' := by
  have t0 := tdiv_b a b h0 h1
  have t1 : -4611686018427387904 ≤ -Int.tdiv a b := by omega
  have t2 : -Int.tdiv a b ≤ 4611686018427387904 := by omega
  have eaa : Int.tdiv (-a) (-b) = Int.tdiv a b := Int.neg_tdiv_neg ..
  have eab : Int.tdiv (-a) b = -Int.tdiv a b := by rw [Int.neg_tdiv]
  have eba : Int.tdiv a (-b) = -Int.tdiv a b := by rw [Int.tdiv_neg]
  by_cases ha : a < 0
  · have da : decide (a < 0) = true := decide_eq_true ha
    by_cases hn : b < 0
    · have db : decide (b < 0) = true := decide_eq_true hn
      have z : (-b == 0) = false := by rw [beq_eq_false_iff_ne]; omega
      have HE := Aside0.mk (show Int.tdiv (-a) (-b) = Int.tdiv a b from by first | omega | (rw [eab]; omega) | (rw [eba]; omega))
      clear eaa eab eba
      go_enter Try.func28, Try.ntmps28
      go_wp2
      go_ret
      exact ⟨ret64 (by first | rfl | (exact HE.out) | (simp; done) | (simp [w64_in, *]; done)), by repeat (first | exact Drawn0.refl _ | apply Drawn0.step)⟩
    · have db : decide (b < 0) = false := decide_eq_false hn
      have z : (b == 0) = false := by rw [beq_eq_false_iff_ne]; omega
      have HE := Aside0.mk (show -Int.tdiv (-a) b = Int.tdiv a b from by first | omega | (rw [eab]; omega) | (rw [eba]; omega))
      clear eaa eab eba
      go_enter Try.func28, Try.ntmps28
      go_wp2
      go_ret
      exact ⟨ret64 (by first | rfl | (exact HE.out) | (simp; done) | (simp [w64_in, *]; done)), by repeat (first | exact Drawn0.refl _ | apply Drawn0.step)⟩
  · have da : decide (a < 0) = false := decide_eq_false ha
    by_cases hn : b < 0
    · have db : decide (b < 0) = true := decide_eq_true hn
      have z : (-b == 0) = false := by rw [beq_eq_false_iff_ne]; omega
      have HE := Aside0.mk (show -Int.tdiv a (-b) = Int.tdiv a b from by first | omega | (rw [eab]; omega) | (rw [eba]; omega))
      clear eaa eab eba
      go_enter Try.func28, Try.ntmps28
      go_wp2
      go_ret
      exact ⟨ret64 (by first | rfl | (exact HE.out) | (simp; done) | (simp [w64_in, *]; done)), by repeat (first | exact Drawn0.refl _ | apply Drawn0.step)⟩
    · have db : decide (b < 0) = false := decide_eq_false hn
      have z : (b == 0) = false := by rw [beq_eq_false_iff_ne]; omega
      have HE := Aside0.mk (show Int.tdiv a b = Int.tdiv a b from by first | omega | (rw [eab]; omega) | (rw [eba]; omega))
      clear eaa eab eba
      go_enter Try.func28, Try.ntmps28
      go_wp2
      go_ret
      exact ⟨ret64 (by first | rfl | (exact HE.out) | (simp; done) | (simp [w64_in, *]; done)), by repeat (first | exact Drawn0.refl _ | apply Drawn0.step)⟩

theorem mul_b {a b : Int} (a0 : -2147483648 ≤ a) (a1 : a < 2147483648) (b0 : -2147483648 ≤ b) (b1 : b < 2147483648) : -4611686018427387904 ≤ a * b ∧ a * b ≤ 4611686018427387904 := by
  have h : (a * b).natAbs = a.natAbs * b.natAbs := Int.natAbs_mul a b
  have h2 : a.natAbs * b.natAbs ≤ 2147483648 * 2147483648 := Nat.mul_le_mul (by omega) (by omega)
  omega
theorem kept_id {n : Int} (h0 : -2147483648 ≤ n) (h1 : n < 2147483648) : kept n = n := by unfold kept mn mx; (repeat' split) <;> omega
theorem mul_is {a b : Int} (a0 : -2147483648 ≤ a) (a1 : a < 2147483648) (b0 : -2147483648 ≤ b) (b1 : b < 2147483648) : PFixedOrder.fixed_Mul.f a b = some (kept (Int.tdiv (a * b) 256)) := by
  have m := mul_b a0 a1 b0 b1
  have t := tdiv_b (a * b) 256 m.1 m.2
  show some (kept (wrap64 (Int.tdiv (wrap64 ((wrap64 a) * (wrap64 b))) 256))) = _
  rw [w64_in a (by omega) (by omega), w64_in b (by omega) (by omega), w64_in (a * b) (by omega) (by omega), w64_in _ (by omega) (by omega)]
theorem mul_calls (a b : Int) (w : World) (a0 : -2147483648 ≤ a) (a1 : a < 2147483648) (b0 : -2147483648 ≤ b) (b1 : b < 2147483648) :
    Calls Try.prog 13 #[.int .i32 a, .int .i32 b] w fun e w' => e = .returned (.int .i32 (kept (Int.tdiv (a * b) 256))) ∧ Below w.heap.size w w' :=
  PFixedOrder.fixed_Mul.calls a b _ w (mul_is a0 a1 b0 b1)
theorem mul_one (a : Int) (w : World) (a0 : -2147483648 ≤ a) (a1 : a < 2147483648) :
    Calls Try.prog 13 #[.int .i32 a, .int .i32 256] w fun e w' => e = .returned (.int .i32 a) ∧ Below w.heap.size w w' := by
  have h := mul_is a0 a1 (b := 256) (by decide) (by decide)
  rw [Int.mul_tdiv_cancel a (by decide), kept_id a0 a1] at h
  exact PFixedOrder.fixed_Mul.calls a 256 _ w h
theorem div_zero (a : Int) (w : World) :
    Calls Try.prog 10 #[.int .i32 a, .int .i32 0] w fun e w' => e = .returned (.tuple #[.int .i32 0, .int .i64 1]) ∧ Below w.heap.size w w' :=
  PFixedOrder.fixed_Div.calls a 0 0 1 w rfl
theorem div_is {a b : Int} (a0 : -2147483648 ≤ a) (a1 : a < 2147483648) (b0 : -2147483648 ≤ b) (b1 : b < 2147483648) (hb : b ≠ 0) : PFixedOrder.fixed_Div.f a b = some (kept (Int.tdiv (a * 256) b), 0) := by
  have t := tdiv_b (a * 256) b (by omega) (by omega)
  unfold PFixedOrder.fixed_Div.f
  rw [if_neg hb, w64_in a (by omega) (by omega), w64_in b (by omega) (by omega), if_neg hb, w64_in (a * 256) (by omega) (by omega), w64_in _ (by omega) (by omega)]
  rfl
theorem div_calls (a b : Int) (w : World) (a0 : -2147483648 ≤ a) (a1 : a < 2147483648) (b0 : -2147483648 ≤ b) (b1 : b < 2147483648) (hb : b ≠ 0) :
    Calls Try.prog 10 #[.int .i32 a, .int .i32 b] w fun e w' => e = .returned (.tuple #[.int .i32 (kept (Int.tdiv (a * 256) b)), .int .i64 0]) ∧ Below w.heap.size w w' :=
  PFixedOrder.fixed_Div.calls a b _ _ w (div_is a0 a1 b0 b1 hb)

set_option maxHeartbeats 8000000 in
set_option maxRecDepth 100000 in
theorem ref_mul_calls (a b : Int) (w : World) (a0 : -2147483648 ≤ a) (a1 : a < 2147483648) (b0 : -2147483648 ≤ b) (b1 : b < 2147483648) :
    Calls Try.prog 14 #[.int .i32 a, .int .i32 b] w fun e w' => e = .returned (.int .i32 (kept (Int.tdiv (a * b) 256))) ∧ Drawn0 w w' := by
  have m := mul_b a0 a1 b0 b1
  have m0 := m.1
  have m1 := m.2
  clear m
  go_enter Try.func14, Try.ntmps14
  go_wp2_with (first
    | ((go_at_call 28; (with_reducible refine (over_calls _ _ _ (by omega) (by omega) (by omega) (by omega) (by omega)).mono ?_)); rintro e w' ⟨rfl, ⟨nd, rfl⟩⟩)
    | ((go_at_call 20; (with_reducible refine (keep_calls _ _).mono ?_)); rintro e w' ⟨rfl, ⟨nd, rfl⟩⟩))
  go_ret
  exact ⟨rfl, by repeat (first | exact Drawn0.refl _ | apply Drawn0.step)⟩

set_option maxHeartbeats 8000000 in
set_option maxRecDepth 100000 in
theorem ref_div_zero (a : Int) (w : World) :
    Calls Try.prog 11 #[.int .i32 a, .int .i32 0] w fun e w' => e = .returned (.tuple #[.int .i32 0, .int .i64 1]) ∧ Drawn0 w w' := by
  go_enter Try.func11, Try.ntmps11
  go_wp2
  go_ret2
  exact ⟨rfl, by repeat (first | exact Drawn0.refl _ | apply Drawn0.step)⟩

set_option maxHeartbeats 8000000 in
set_option maxRecDepth 100000 in
theorem ref_div_calls (a b : Int) (w : World) (a0 : -2147483648 ≤ a) (a1 : a < 2147483648) (b0 : -2147483648 ≤ b) (b1 : b < 2147483648) (hb : b ≠ 0) :
    Calls Try.prog 11 #[.int .i32 a, .int .i32 b] w fun e w' => e = .returned (.tuple #[.int .i32 (kept (Int.tdiv (a * 256) b)), .int .i64 0]) ∧ Drawn0 w w' := by
  have z : (b == 0) = false := by rw [beq_eq_false_iff_ne]; exact hb
  go_enter Try.func11, Try.ntmps11
  go_wp2_with (first
    | ((go_at_call 28; (with_reducible refine (over_calls _ _ _ (by omega) (by omega) (by omega) (by omega) (by assumption)).mono ?_)); rintro e w' ⟨rfl, ⟨nd, rfl⟩⟩)
    | ((go_at_call 20; (with_reducible refine (keep_calls _ _).mono ?_)); rintro e w' ⟨rfl, ⟨nd, rfl⟩⟩))
  go_ret2
  exact ⟨rfl, by repeat (first | exact Drawn0.refl _ | apply Drawn0.step)⟩

set_option maxHeartbeats 8000000 in
set_option maxRecDepth 100000 in
theorem ref_floor_calls (a : Int) (w : World) (a0 : -2147483648 ≤ a) (a1 : a < 2147483648) :
    Calls Try.prog 25 #[.int .i32 a] w fun e w' => e = .returned (.int .i64 (a / 256)) ∧ Drawn0 w w' := by
  have t := tdiv_b a 256 (by omega) (by omega)
  have q0 : Int.tdiv a 256 = if 0 ≤ a then a / 256 else -(-a / 256) := by
    split
    · exact Int.tdiv_eq_ediv_of_nonneg (by omega)
    · have := Int.neg_tdiv (-a) 256
      rw [Int.neg_neg] at this
      rw [this, Int.tdiv_eq_ediv_of_nonneg (by omega)]
  have b0 : -2147483648 ≤ Int.tdiv a 256 := by rw [q0]; split <;> omega
  have b1 : Int.tdiv a 256 ≤ 2147483648 := by rw [q0]; split <;> omega
  have hov : ∀ w : World, Calls Try.prog 28 #[.int .i64 a, .int .i64 256] w fun e w' => e = .returned (.int .i64 (Int.tdiv a 256)) ∧ Drawn0 w w' := fun w => over_calls a 256 w (by omega) (by omega) (by omega) (by omega) (by omega)
  have e0 : Int.tdiv a 256 * 256 > a → Int.tdiv a 256 - 1 = a / 256 := by rw [q0]; split <;> omega
  have e1 : ¬ Int.tdiv a 256 * 256 > a → Int.tdiv a 256 = a / 256 := by rw [q0]; split <;> omega
  clear q0 t
  generalize Int.tdiv a 256 = q at *
  have HO := Aside0.mk hov
  clear hov
  by_cases h : q * 256 > a
  · have HE := Aside0.mk (e0 h)
    have d : decide (a < q * 256) = true := decide_eq_true h
    clear e0 e1
    go_enter Try.func25, Try.ntmps25
    go_wp2_with ((go_at_call 28; (with_reducible refine (HO.out _).mono ?_)); rintro e w' ⟨rfl, ⟨nd, rfl⟩⟩)
    go_ret
    exact ⟨ret64 HE.out, by repeat (first | exact Drawn0.refl _ | apply Drawn0.step)⟩
  · have HE := Aside0.mk (e1 h)
    have d : decide (a < q * 256) = false := decide_eq_false h
    clear e0 e1
    go_enter Try.func25, Try.ntmps25
    go_wp2_with ((go_at_call 28; (with_reducible refine (HO.out _).mono ?_)); rintro e w' ⟨rfl, ⟨nd, rfl⟩⟩)
    go_ret
    exact ⟨ret64 HE.out, by repeat (first | exact Drawn0.refl _ | apply Drawn0.step)⟩

/-- What becomes of a plain number. -/
def fromI (n : Int) : Int := if n > 8388607 then 2147483647 else if n < -8388608 then -2147483648 else n * 256
set_option maxHeartbeats 8000000 in
set_option maxRecDepth 100000 in
theorem ref_from_calls (n : Int) (w : World) (n0 : -9223372036854775808 ≤ n) (n1 : n < 9223372036854775808) :
    Calls Try.prog 24 #[.int .i64 n] w fun e w' => e = .returned (.int .i32 (fromI n)) ∧ Drawn0 w w' := by
  by_cases h1 : n > 8388607
  · have HE := Aside0.mk (show (2147483647 : Int) = fromI n by unfold fromI; rw [if_pos h1])
    have d1 : decide (8388607 < n) = true := decide_eq_true h1
    go_enter Try.func24, Try.ntmps24
    go_wp2
    go_ret
    exact ⟨ret64 HE.out, by repeat (first | exact Drawn0.refl _ | apply Drawn0.step)⟩
  · have d1 : decide (8388607 < n) = false := decide_eq_false h1
    by_cases h2 : n < -8388608
    · have HE := Aside0.mk (show (-2147483648 : Int) = fromI n by unfold fromI; rw [if_neg h1, if_pos h2])
      have d2 : decide (n < -8388608) = true := decide_eq_true h2
      go_enter Try.func24, Try.ntmps24
      go_wp2
      go_ret
      exact ⟨ret64 HE.out, by repeat (first | exact Drawn0.refl _ | apply Drawn0.step)⟩
    · have HE := Aside0.mk (show n * 256 = fromI n by unfold fromI; rw [if_neg h1, if_neg h2])
      have d2 : decide (n < -8388608) = false := decide_eq_false h2
      have l1 : -8388608 ≤ n := by omega
      have l2 : n ≤ 8388607 := by omega
      clear n0 n1 h1 h2
      go_enter Try.func24, Try.ntmps24
      go_wp2
      go_ret
      exact ⟨ret64 HE.out, by repeat (first | exact Drawn0.refl _ | apply Drawn0.step)⟩

set_option maxHeartbeats 8000000 in
set_option maxRecDepth 100000 in
theorem keep0_calls (n : Int) (w : World) :
    Calls Try.prog 27 #[.int .i64 n] w fun e w' => e = .returned (.int .i32 (kept n)) ∧ Below w.heap.size w w' :=
  PFixedOrder.fixed_keep.calls n _ w rfl

theorem kept_from (n : Int) : kept (kept n * 256) = fromI n := by
  unfold kept mn mx fromI; (repeat' split) <;> omega

set_option maxHeartbeats 8000000 in
set_option maxRecDepth 100000 in
theorem from_calls (n : Int) (w : World) :
    Calls Try.prog 23 #[.int .i64 n] w fun e w' => e = .returned (.int .i32 (fromI n)) ∧ Below w.heap.size w w' := by
  have HB := Aside0.mk (Below.refl w.heap.size w)
  rw [← kept_from]
  have k0 : -2147483648 ≤ kept n := by unfold kept mn mx; (repeat' split) <;> omega
  have k1 : kept n ≤ 2147483647 := by unfold kept mn mx; (repeat' split) <;> omega
  have HK := Aside0.mk (show (if 2147483647 < (if n < -2147483648 then -2147483648 else n) then 2147483647 else (if n < -2147483648 then -2147483648 else n)) = kept n from rfl)
  generalize kept n = k at *
  obtain ⟨j1, hj1⟩ : ∃ j : Int, (if n < -2147483648 then -2147483648 else n) = j := ⟨_, rfl⟩
  have hj2 : (if 2147483647 < j1 then 2147483647 else j1) = k := by rw [← hj1]; exact HK.out
  go_enter Try.func23, Try.ntmps23
  go_wp2_with ((go_at_call 27; (with_reducible refine (keep0_calls _ _).mono ?_)); rintro e w1 ⟨rfl, hb⟩; have n0_ := Aside0.mk (below_step (by repeat (first | (with_reducible first | exact HB.out | apply below_alloc | apply pw_below_drewN | apply below_drew1) | exact HB.out)) hb); clear HB; have HB := n0_; clear n0_; clear hb)
  go_ret
  exact ⟨rfl, by repeat (first | (with_reducible first | exact HB.out | apply below_alloc | apply pw_below_drewN | apply below_drew1) | exact HB.out)⟩

end Go.Proofs.Ytijbhfclebijgaa.Over
