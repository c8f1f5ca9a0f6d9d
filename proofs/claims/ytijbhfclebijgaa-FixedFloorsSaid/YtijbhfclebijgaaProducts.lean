/- FixedProducts and FixedFloors answer true: at any two numbers of 32 bits; at any number of 32 bits and any plain number. No conditions. -/
import Derived.Test.YtijbhfclebijgaaOver
namespace Go.Proofs.Ytijbhfclebijgaa.Products
open Go.RowKit Go.Proofs.YtijbhfclebijgaaW.PrintWords Go.Proofs.YtijbhfclebijgaaW.PrintLast Go.Proofs.YtijbhfclebijgaaW.PrintMore Go.Proofs.Ytijbhfclebijgaa.Aid Go.Proofs.Ytijbhfclebijgaa.Sums Go.Proofs.Ytijbhfclebijgaa.Over

set_option maxHeartbeats 8000000 in
set_option maxRecDepth 100000 in
theorem products_zero (a : Int) (w : World) (a0 : -2147483648 ≤ a) (a1 : a < 2147483648) :
    Calls Try.prog 3 #[.int .i32 a, .int .i32 0] w fun e w' => e = .returned (.bool true) ∧ Below w.heap.size w w' := by
  have HB := Aside0.mk (Below.refl w.heap.size w)
  go_enter Try.func3, Try.ntmps3
  go_wp2_with (first
    | ((go_at_call 12; (with_reducible refine (awake_calls _).mono ?_)); rintro e w1 ⟨rfl, hb⟩; have n0_ := Aside0.mk (below_step (by repeat (first | (with_reducible first | exact HB.out | apply below_alloc | apply pw_below_drewN | apply below_drew1) | exact HB.out)) hb); clear HB; have HB := n0_; clear n0_; clear hb)
    | ((go_at_call 10; (with_reducible refine (div_zero a _).mono ?_)); rintro e w1 ⟨rfl, hb⟩; have n0_ := Aside0.mk (below_step (by repeat (first | (with_reducible first | exact HB.out | apply below_alloc | apply pw_below_drewN | apply below_drew1) | exact HB.out)) hb); clear HB; have HB := n0_; clear n0_; clear hb)
    | ((go_at_call 11; (with_reducible refine (ref_div_zero a _).mono ?_)); rintro e w' ⟨rfl, ⟨nd, rfl⟩⟩)
    | ((go_at_call 13; (with_reducible refine (mul_one a _ (by assumption) (by assumption)).mono ?_)); rintro e w1 ⟨rfl, hb⟩; have n0_ := Aside0.mk (below_step (by repeat (first | (with_reducible first | exact HB.out | apply below_alloc | apply pw_below_drewN | apply below_drew1) | exact HB.out)) hb); clear HB; have HB := n0_; clear n0_; clear hb)
    | ((go_at_call 13; (with_reducible refine (mul_calls a 0 _ (by assumption) (by assumption) (by decide) (by decide)).mono ?_)); rintro e w1 ⟨rfl, hb⟩; have n0_ := Aside0.mk (below_step (by repeat (first | (with_reducible first | exact HB.out | apply below_alloc | apply pw_below_drewN | apply below_drew1) | exact HB.out)) hb); clear HB; have HB := n0_; clear n0_; clear hb)
    | ((go_at_call 14; (with_reducible refine (ref_mul_calls a 0 _ (by assumption) (by assumption) (by decide) (by decide)).mono ?_)); rintro e w' ⟨rfl, ⟨nd, rfl⟩⟩))
  go_ret
  exact ⟨rfl, by repeat (first | (with_reducible first | exact HB.out | apply below_alloc | apply pw_below_drewN | apply below_drew1) | exact HB.out)⟩

set_option maxHeartbeats 8000000 in
set_option maxRecDepth 100000 in
theorem products_calls (a b : Int) (w : World) (a0 : -2147483648 ≤ a) (a1 : a < 2147483648) (b0 : -2147483648 ≤ b) (b1 : b < 2147483648) :
    Calls Try.prog 3 #[.int .i32 a, .int .i32 b] w fun e w' => e = .returned (.bool true) ∧ Below w.heap.size w w' := by
  by_cases hb : b = 0
  · subst hb; exact products_zero a w a0 a1
  have HB := Aside0.mk (Below.refl w.heap.size w)
  go_enter Try.func3, Try.ntmps3
  go_wp2_with (first
    | ((go_at_call 12; (with_reducible refine (awake_calls _).mono ?_)); rintro e w1 ⟨rfl, hb⟩; have n0_ := Aside0.mk (below_step (by repeat (first | (with_reducible first | exact HB.out | apply below_alloc | apply pw_below_drewN | apply below_drew1) | exact HB.out)) hb); clear HB; have HB := n0_; clear n0_; clear hb)
    | ((go_at_call 10; (with_reducible refine (div_calls a b _ (by assumption) (by assumption) (by assumption) (by assumption) (by assumption)).mono ?_)); rintro e w1 ⟨rfl, hb⟩; have n0_ := Aside0.mk (below_step (by repeat (first | (with_reducible first | exact HB.out | apply below_alloc | apply pw_below_drewN | apply below_drew1) | exact HB.out)) hb); clear HB; have HB := n0_; clear n0_; clear hb)
    | ((go_at_call 11; (with_reducible refine (ref_div_calls a b _ (by assumption) (by assumption) (by assumption) (by assumption) (by assumption)).mono ?_)); rintro e w' ⟨rfl, ⟨nd, rfl⟩⟩)
    | ((go_at_call 13; (with_reducible refine (mul_calls a b _ (by assumption) (by assumption) (by assumption) (by assumption)).mono ?_)); rintro e w1 ⟨rfl, hb⟩; have n0_ := Aside0.mk (below_step (by repeat (first | (with_reducible first | exact HB.out | apply below_alloc | apply pw_below_drewN | apply below_drew1) | exact HB.out)) hb); clear HB; have HB := n0_; clear n0_; clear hb)
    | ((go_at_call 13; (with_reducible refine (mul_one a _ (by assumption) (by assumption)).mono ?_)); rintro e w1 ⟨rfl, hb⟩; have n0_ := Aside0.mk (below_step (by repeat (first | (with_reducible first | exact HB.out | apply below_alloc | apply pw_below_drewN | apply below_drew1) | exact HB.out)) hb); clear HB; have HB := n0_; clear n0_; clear hb)
    | ((go_at_call 14; (with_reducible refine (ref_mul_calls a b _ (by assumption) (by assumption) (by assumption) (by assumption)).mono ?_)); rintro e w' ⟨rfl, ⟨nd, rfl⟩⟩))
  go_ret
  exact ⟨rfl, by repeat (first | (with_reducible first | exact HB.out | apply below_alloc | apply pw_below_drewN | apply below_drew1) | exact HB.out)⟩

theorem floor_calls (a : Int) (w : World) (a0 : -2147483648 ≤ a) (a1 : a < 2147483648) :
    Calls Try.prog 22 #[.int .i32 a] w fun e w' => e = .returned (.int .i64 (a / 256)) ∧ Drawn0 w w' :=
  PFixedOrder.fixed_Floor.calls a _ w (by show some (wrap64 (a / 256)) = _; rw [w64_in _ (by omega) (by omega)])
theorem fromI_b (n : Int) : -2147483648 ≤ fromI n ∧ fromI n < 2147483648 := by unfold fromI; (repeat' split) <;> omega
theorem floor_from (n : Int) (w : World) (h0 : -8388608 ≤ n) (h1 : n < 8388608) :
    Calls Try.prog 22 #[.int .i32 (fromI n)] w fun e w' => e = .returned (.int .i64 n) ∧ Drawn0 w w' := by
  have h := floor_calls (fromI n) w (fromI_b n).1 (fromI_b n).2
  have e : fromI n / 256 = n := by unfold fromI; rw [if_neg (by omega), if_neg (by omega)]; omega
  rw [e] at h
  exact h
set_option maxHeartbeats 8000000 in
set_option maxRecDepth 100000 in
theorem floors_calls (a n : Int) (w : World) (a0 : -2147483648 ≤ a) (a1 : a < 2147483648) (n0 : -9223372036854775808 ≤ n) (n1 : n < 9223372036854775808) :
    Calls Try.prog 8 #[.int .i32 a, .int .i64 n] w fun e w' => e = .returned (.bool true) ∧ Below w.heap.size w w' := by
  have HB := Aside0.mk (Below.refl w.heap.size w)
  have k0 : -8388608 ≤ a / 256 := by omega
  have k1 : a / 256 < 8388608 := by omega
  have d1 : decide (a < a / 256 * 256) = false := by rw [decide_eq_false_iff_not]; omega
  have d2 : decide ((a / 256 + 1) * 256 ≤ a) = false := by rw [decide_eq_false_iff_not]; omega
  by_cases h1 : n < -8388608
  · have d3 : decide (n < -8388608) = true := decide_eq_true h1
    go_enter Try.func8, Try.ntmps8
    go_wp2_with (first
      | ((go_at_call 12; (with_reducible refine (awake_calls _).mono ?_)); rintro e w1 ⟨rfl, hb⟩; have n0_ := Aside0.mk (below_step (by repeat (first | (with_reducible first | exact HB.out | apply below_alloc | apply pw_below_drewN | apply below_drew1) | exact HB.out)) hb); clear HB; have HB := n0_; clear n0_; clear hb)
      | ((go_at_call 23; (with_reducible refine (from_calls n _).mono ?_)); rintro e w1 ⟨rfl, hb⟩; have n0_ := Aside0.mk (below_step (by repeat (first | (with_reducible first | exact HB.out | apply below_alloc | apply pw_below_drewN | apply below_drew1) | exact HB.out)) hb); clear HB; have HB := n0_; clear n0_; clear hb)
      | ((go_at_call 24; (with_reducible refine (ref_from_calls n _ (by assumption) (by assumption)).mono ?_)); rintro e w' ⟨rfl, ⟨nd, rfl⟩⟩)
      | ((go_at_call 22; (with_reducible refine (floor_calls a _ (by assumption) (by assumption)).mono ?_)); rintro e w' ⟨rfl, ⟨nd, rfl⟩⟩)
      | ((go_at_call 22; (with_reducible refine (floor_from n _ (by assumption) (by assumption)).mono ?_)); rintro e w' ⟨rfl, ⟨nd, rfl⟩⟩)
      | ((go_at_call 25; (with_reducible refine (ref_floor_calls a _ (by assumption) (by assumption)).mono ?_)); rintro e w' ⟨rfl, ⟨nd, rfl⟩⟩))
    go_ret
    exact ⟨rfl, by repeat (first | (with_reducible first | exact HB.out | apply below_alloc | apply pw_below_drewN | apply below_drew1) | exact HB.out)⟩
  have d3 : decide (n < -8388608) = false := decide_eq_false h1
  by_cases h2 : 8388608 ≤ n
  · have d4 : decide (8388608 ≤ n) = true := decide_eq_true h2
    go_enter Try.func8, Try.ntmps8
    go_wp2_with (first
      | ((go_at_call 12; (with_reducible refine (awake_calls _).mono ?_)); rintro e w1 ⟨rfl, hb⟩; have n0_ := Aside0.mk (below_step (by repeat (first | (with_reducible first | exact HB.out | apply below_alloc | apply pw_below_drewN | apply below_drew1) | exact HB.out)) hb); clear HB; have HB := n0_; clear n0_; clear hb)
      | ((go_at_call 23; (with_reducible refine (from_calls n _).mono ?_)); rintro e w1 ⟨rfl, hb⟩; have n0_ := Aside0.mk (below_step (by repeat (first | (with_reducible first | exact HB.out | apply below_alloc | apply pw_below_drewN | apply below_drew1) | exact HB.out)) hb); clear HB; have HB := n0_; clear n0_; clear hb)
      | ((go_at_call 24; (with_reducible refine (ref_from_calls n _ (by assumption) (by assumption)).mono ?_)); rintro e w' ⟨rfl, ⟨nd, rfl⟩⟩)
      | ((go_at_call 22; (with_reducible refine (floor_calls a _ (by assumption) (by assumption)).mono ?_)); rintro e w' ⟨rfl, ⟨nd, rfl⟩⟩)
      | ((go_at_call 22; (with_reducible refine (floor_from n _ (by assumption) (by assumption)).mono ?_)); rintro e w' ⟨rfl, ⟨nd, rfl⟩⟩)
      | ((go_at_call 25; (with_reducible refine (ref_floor_calls a _ (by assumption) (by assumption)).mono ?_)); rintro e w' ⟨rfl, ⟨nd, rfl⟩⟩))
    go_ret
    exact ⟨rfl, by repeat (first | (with_reducible first | exact HB.out | apply below_alloc | apply pw_below_drewN | apply below_drew1) | exact HB.out)⟩
  have d4 : decide (8388608 ≤ n) = false := decide_eq_false h2
  have l1 : -8388608 ≤ n := by omega
  have l2 : n < 8388608 := by omega
  go_enter Try.func8, Try.ntmps8
  go_wp2_with (first
    | ((go_at_call 12; (with_reducible refine (awake_calls _).mono ?_)); rintro e w1 ⟨rfl, hb⟩; have n0_ := Aside0.mk (below_step (by repeat (first | (with_reducible first | exact HB.out | apply below_alloc | apply pw_below_drewN | apply below_drew1) | exact HB.out)) hb); clear HB; have HB := n0_; clear n0_; clear hb)
    | ((go_at_call 23; (with_reducible refine (from_calls n _).mono ?_)); rintro e w1 ⟨rfl, hb⟩; have n0_ := Aside0.mk (below_step (by repeat (first | (with_reducible first | exact HB.out | apply below_alloc | apply pw_below_drewN | apply below_drew1) | exact HB.out)) hb); clear HB; have HB := n0_; clear n0_; clear hb)
    | ((go_at_call 24; (with_reducible refine (ref_from_calls n _ (by assumption) (by assumption)).mono ?_)); rintro e w' ⟨rfl, ⟨nd, rfl⟩⟩)
    | ((go_at_call 22; (with_reducible refine (floor_calls a _ (by assumption) (by assumption)).mono ?_)); rintro e w' ⟨rfl, ⟨nd, rfl⟩⟩)
    | ((go_at_call 22; (with_reducible refine (floor_from n _ (by assumption) (by assumption)).mono ?_)); rintro e w' ⟨rfl, ⟨nd, rfl⟩⟩)
    | ((go_at_call 25; (with_reducible refine (ref_floor_calls a _ (by assumption) (by assumption)).mono ?_)); rintro e w' ⟨rfl, ⟨nd, rfl⟩⟩))
  go_ret
  exact ⟨rfl, by repeat (first | (with_reducible first | exact HB.out | apply below_alloc | apply pw_below_drewN | apply below_drew1) | exact HB.out)⟩

end Go.Proofs.Ytijbhfclebijgaa.Products
