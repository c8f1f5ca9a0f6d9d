/- FixedSums answers true at any two numbers of 32 bits: sums and differences are kept in, as the document says, whichever stands first. No conditions. -/
import Derived.Test.YtijbhfclebijgaaPFixedOrderx1
import Derived.Test.YtijbhfclebijgaaPFixedRootsx1
import Derived.Test.YtijbhfclebijgaaAid
namespace Go.Proofs.Ytijbhfclebijgaa.Sums
open Go.RowKit Go.Proofs.YtijbhfclebijgaaW.PrintWords Go.Proofs.YtijbhfclebijgaaW.PrintLast Go.Proofs.YtijbhfclebijgaaW.PrintMore Go.Proofs.Ytijbhfclebijgaa.Aid

theorem awake_true : PFixedOrder.pinnacelaw04_awake.f 64 = some true := by decide +kernel
/-- What is kept of a number. -/
def kept (n : Int) : Int := mn (mx n (-2147483648)) 2147483647
theorem kept_ref {n : Int} : PFixedRoots.pinnaceref04_Keep.f n = some (kept n) := by
  unfold PFixedRoots.pinnaceref04_Keep.f kept mn mx
  by_cases h1 : n < -2147483648
  · simp [h1]
  · by_cases h2 : n > 2147483647
    · simp [h1, h2]
    · simp only [if_neg h1, if_neg h2]
      rw [w32_in n (by omega) (by omega)]
theorem add_is (a b : Int) : PFixedOrder.fixed_Add.f a b = some (kept (wrap64 (wrap64 a + wrap64 b))) := rfl
theorem sub_is (a b : Int) : PFixedOrder.fixed_Sub.f a b = some (kept (wrap64 (wrap64 a - wrap64 b))) := rfl

theorem add_calls (a b : Int) (w : World) :
    Calls Try.prog 19 #[.int .i32 a, .int .i32 b] w fun e w' => e = .returned (.int .i32 (kept (wrap64 (wrap64 a + wrap64 b)))) ∧ Below w.heap.size w w' :=
  PFixedOrder.fixed_Add.calls a b _ w (add_is a b)
theorem sub_calls (a b : Int) (w : World) :
    Calls Try.prog 21 #[.int .i32 a, .int .i32 b] w fun e w' => e = .returned (.int .i32 (kept (wrap64 (wrap64 a - wrap64 b)))) ∧ Below w.heap.size w w' :=
  PFixedOrder.fixed_Sub.calls a b _ w (sub_is a b)
theorem keep_calls (n : Int) (w : World) :
    Calls Try.prog 20 #[.int .i64 n] w fun e w' => e = .returned (.int .i32 (kept n)) ∧ Drawn0 w w' :=
  PFixedRoots.pinnaceref04_Keep.calls n _ w kept_ref
theorem awake_calls (w : World) : Calls Try.prog 12 #[] w fun e w' => e = .returned (.bool true) ∧ Below w.heap.size w w' :=
  PFixedOrder.pinnacelaw04_awake.calls 64 true w awake_true

theorem add_calls' (a b : Int) (w : World) :
    Calls Try.prog 19 #[.int .i32 b, .int .i32 a] w fun e w' => e = .returned (.int .i32 (kept (wrap64 (wrap64 a + wrap64 b)))) ∧ Below w.heap.size w w' := by
  rw [Int.add_comm]
  exact add_calls b a w

set_option maxHeartbeats 8000000 in
set_option maxRecDepth 100000 in
theorem sums_calls (a b : Int) (w : World) :
    Calls Try.prog 6 #[.int .i32 a, .int .i32 b] w fun e w' => e = .returned (.bool true) ∧ Below w.heap.size w w' := by
  have HB := Aside0.mk (Below.refl w.heap.size w)
  go_enter Try.func6, Try.ntmps6
  go_wp2_with (first
    | ((go_at_call 12; (with_reducible refine (awake_calls _).mono ?_)); rintro e w1 ⟨rfl, hb⟩; have n0_ := Aside0.mk (below_step (by repeat (first | (with_reducible first | exact HB.out | apply below_alloc | apply pw_below_drewN | apply below_drew1) | exact HB.out)) hb); clear HB; have HB := n0_; clear n0_; clear hb)
    | ((go_at_call 19; (with_reducible refine (add_calls a b _).mono ?_)); rintro e w1 ⟨rfl, hb⟩; have n0_ := Aside0.mk (below_step (by repeat (first | (with_reducible first | exact HB.out | apply below_alloc | apply pw_below_drewN | apply below_drew1) | exact HB.out)) hb); clear HB; have HB := n0_; clear n0_; clear hb)
    | ((go_at_call 19; (with_reducible refine (add_calls' a b _).mono ?_)); rintro e w1 ⟨rfl, hb⟩; have n0_ := Aside0.mk (below_step (by repeat (first | (with_reducible first | exact HB.out | apply below_alloc | apply pw_below_drewN | apply below_drew1) | exact HB.out)) hb); clear HB; have HB := n0_; clear n0_; clear hb)
    | ((go_at_call 21; (with_reducible refine (sub_calls a b _).mono ?_)); rintro e w1 ⟨rfl, hb⟩; have n0_ := Aside0.mk (below_step (by repeat (first | (with_reducible first | exact HB.out | apply below_alloc | apply pw_below_drewN | apply below_drew1) | exact HB.out)) hb); clear HB; have HB := n0_; clear n0_; clear hb)
    | ((go_at_call 20; (with_reducible refine (keep_calls _ _).mono ?_)); rintro e w' ⟨rfl, ⟨nd, rfl⟩⟩))
  go_ret
  exact ⟨rfl, by repeat (first | (with_reducible first | exact HB.out | apply below_alloc | apply pw_below_drewN | apply below_drew1) | exact HB.out)⟩

end Go.Proofs.Ytijbhfclebijgaa.Sums
