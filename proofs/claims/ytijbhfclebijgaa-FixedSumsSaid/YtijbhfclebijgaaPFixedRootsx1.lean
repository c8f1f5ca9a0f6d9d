-- PRINTED BY print.sh 35421559b90ae4d0a3588c463048766b98c2df88dd9212a6774a882060cdf62d: not written by this session
import Derived.Test.YtijbhfclebijgaaPFixedRootsx0
namespace Go.Proofs.Ytijbhfclebijgaa.PFixedRoots
open Go.RowKit Go.Proofs.YtijbhfclebijgaaW.PrintWords Go.Proofs.YtijbhfclebijgaaW.PrintLast Go.Proofs.YtijbhfclebijgaaW.PrintMore
attribute [local go_sem] max2_int min2_int max_two min_two max_three min_three max_four min_four   -- for this text's walks alone
set_option linter.unusedVariables false
set_option linter.unusedSimpArgs false

/-! ### fixed_keep: function 27 -/
def fixed_keep.f (a0 : Int) : Option (Int) := some (mn (mx a0 (-2147483648)) 2147483647)
set_option maxHeartbeats 8000000 in
set_option maxRecDepth 100000 in
theorem fixed_keep.calls (a0 : Int) (r : Int) (w : World) (h : fixed_keep.f a0 = some r) :
    Calls Try.prog 27 #[.int .i64 a0] w fun e w' => e = .returned (.int .i32 r) ∧ Below w.heap.size w w' := by
  have HB := Aside0.mk (Below.refl w.heap.size w)
  have H : (some (mn (mx a0 (-2147483648)) 2147483647)) = some r := h
  clear h
  obtain ⟨ji2, hji2⟩ : ∃ j_ : Int, (mx a0 (-2147483648)) = j_ := ⟨_, rfl⟩
  replace H : (some (mn (ji2) 2147483647)) = some r := by first | (rw [hji2] at H; exact H) | (simp only [hji2] at H ⊢; exact H)
  have hji2_ : (if a0 < (-2147483648) then (-2147483648) else a0) = ji2 := hji2
  obtain ⟨ji3, hji3⟩ : ∃ j_ : Int, (mn (ji2) 2147483647) = j_ := ⟨_, rfl⟩
  replace H : (some ji3) = some r := by first | (rw [hji3] at H; exact H) | (simp only [hji3] at H ⊢; exact H)
  have hji3_ : (if 2147483647 < (ji2) then 2147483647 else (ji2)) = ji3 := hji3
  obtain rfl := Option.some.inj H
  go_enter Try.func27, Try.ntmps27
  go_wp2
  go_ret
  exact ⟨by first | rfl | (simp [errW_none, errW_some] <;> rfl) | (simp only [← hji2, ← hji3]; first | rfl | (simp [errW_none, errW_some] <;> rfl)) | (simp [*, errW_none, errW_some] <;> rfl), by repeat (first | (with_reducible first | exact HB.out | apply below_alloc | apply pw_below_drewN | apply below_drew1) | exact HB.out)⟩

/-! ### fixed_Div: function 10 -/
def fixed_Div.f (a0 : Int) (a1 : Int) : Option (Int × Int) := if a1 = 0 then (some (0, 1)) else (if (wrap64 (a1)) = 0 then (none) else ((fixed_keep.f (wrap64 (Int.tdiv (wrap64 ((wrap64 (a0)) * 256)) (wrap64 (a1))))).bind fun t101 => (some (t101, 0))))
set_option maxHeartbeats 8000000 in
set_option maxRecDepth 100000 in
theorem fixed_Div.calls (a0 : Int) (a1 : Int) (r1 : Int) (r2 : Int) (w : World) (h : fixed_Div.f a0 a1 = some (r1, r2)) :
    Calls Try.prog 10 #[.int .i32 a0, .int .i32 a1] w fun e w' => e = .returned (.tuple #[.int .i32 r1, .int .i64 r2]) ∧ Below w.heap.size w w' := by
  have HB := Aside0.mk (Below.refl w.heap.size w)
  have H : (if a1 = 0 then (some (0, 1)) else (if (wrap64 (a1)) = 0 then (none) else ((fixed_keep.f (wrap64 (Int.tdiv (wrap64 ((wrap64 (a0)) * 256)) (wrap64 (a1))))).bind fun t101 => (some (t101, 0))))) = some (r1, r2) := h
  clear h
  by_cases c3 : a1 = 0
  · rw [if_pos c3] at H
    have c3b0 : (a1 == 0) = true := beq_iff_eq.mpr c3
    have c3b1 : (a1 != 0) = false := bne_eq_false_iff_eq.mpr c3
    clear c3
    simp only [Option.some.injEq, Prod.mk.injEq] at H
    obtain ⟨rfl, rfl⟩ := H
    go_enter Try.func10, Try.ntmps10
    go_wp2
    go_ret2
    exact ⟨by first | rfl | (simp [errW_none, errW_some] <;> rfl) | (simp [*, errW_none, errW_some] <;> rfl), by repeat (first | (with_reducible first | exact HB.out | apply below_alloc | apply pw_below_drewN | apply below_drew1) | exact HB.out)⟩
  · rw [if_neg c3] at H
    have c3b0 : (a1 == 0) = false := beq_eq_false_iff_ne.mpr c3
    have c3b1 : (a1 != 0) = true := bne_iff_ne.mpr c3
    by_cases c4 : (wrap64 (a1)) = 0
    · rw [if_pos c4] at H
      exact absurd H (by simp)
    · rw [if_neg c4] at H
      have c4b0 : ((wrap64 (a1)) == 0) = false := beq_eq_false_iff_ne.mpr c4
      have c4b1 : ((wrap64 (a1)) != 0) = true := bne_iff_ne.mpr c4
      replace H := Option.bind_eq_some_iff.mp H
      obtain ⟨t101, A50, H⟩ := H
      replace H : (some (t101, 0)) = some (r1, r2) := H
      have A5 := Aside0.mk A50
      clear A50
      simp only [Option.some.injEq, Prod.mk.injEq] at H
      obtain ⟨rfl, rfl⟩ := H
      go_enter Try.func10, Try.ntmps10
      go_wp2_with (first | ((with_reducible refine gate_callee (f := 27) rfl ?_); refine goesL_ (some 14) rfl rfl Try.func27 (by kernel_rfl) rfl #[.int .i64 (wrap64 (Int.tdiv (wrap64 ((wrap64 (a0)) * 256)) (wrap64 (a1))))] rfl (by (try simp only [List.map_toArray, List.map_cons, List.map_nil]); first | done | rfl | (simp only [List.length_drop, List.length_take]; rfl)) ?_; (with_reducible refine (fixed_keep.calls (wrap64 (Int.tdiv (wrap64 ((wrap64 (a0)) * 256)) (wrap64 (a1)))) t101 _ A5.out).mono ?_); rintro e w6 ⟨rfl, hb⟩; refine ⟨_, rfl, ?_⟩; have n0_ := Aside0.mk (below_step (by repeat (first | (with_reducible first | exact HB.out | apply below_alloc | apply pw_below_drewN | apply below_drew1) | exact HB.out)) hb); clear HB; have HB := n0_; clear n0_; (try clear hb); (try clear hb2); (try clear hk); (try clear hi)))
      go_ret2
      exact ⟨by first | rfl | (simp [errW_none, errW_some] <;> rfl) | (simp [*, errW_none, errW_some] <;> rfl), by repeat (first | (with_reducible first | exact HB.out | apply below_alloc | apply pw_below_drewN | apply below_drew1) | exact HB.out)⟩

/-! ### fixed_Mul: function 13 -/
def fixed_Mul.f (a0 : Int) (a1 : Int) : Option (Int) := (fixed_keep.f (wrap64 (Int.tdiv (wrap64 ((wrap64 (a0)) * (wrap64 (a1)))) 256))).bind fun t102 => (some t102)
set_option maxHeartbeats 8000000 in
set_option maxRecDepth 100000 in
theorem fixed_Mul.calls (a0 : Int) (a1 : Int) (r : Int) (w : World) (h : fixed_Mul.f a0 a1 = some r) :
    Calls Try.prog 13 #[.int .i32 a0, .int .i32 a1] w fun e w' => e = .returned (.int .i32 r) ∧ Below w.heap.size w w' := by
  have HB := Aside0.mk (Below.refl w.heap.size w)
  have H : ((fixed_keep.f (wrap64 (Int.tdiv (wrap64 ((wrap64 (a0)) * (wrap64 (a1)))) 256))).bind fun t102 => (some t102)) = some r := h
  clear h
  replace H := Option.bind_eq_some_iff.mp H
  obtain ⟨t102, A30, H⟩ := H
  replace H : (some t102) = some r := H
  have A3 := Aside0.mk A30
  clear A30
  obtain rfl := Option.some.inj H
  go_enter Try.func13, Try.ntmps13
  go_wp2_with (first | ((with_reducible refine gate_callee (f := 27) rfl ?_); refine goesL_ (some 11) rfl rfl Try.func27 (by kernel_rfl) rfl #[.int .i64 (wrap64 (Int.tdiv (wrap64 ((wrap64 (a0)) * (wrap64 (a1)))) 256))] rfl (by (try simp only [List.map_toArray, List.map_cons, List.map_nil]); first | done | rfl | (simp only [List.length_drop, List.length_take]; rfl)) ?_; (with_reducible refine (fixed_keep.calls (wrap64 (Int.tdiv (wrap64 ((wrap64 (a0)) * (wrap64 (a1)))) 256)) t102 _ A3.out).mono ?_); rintro e w4 ⟨rfl, hb⟩; refine ⟨_, rfl, ?_⟩; have n0_ := Aside0.mk (below_step (by repeat (first | (with_reducible first | exact HB.out | apply below_alloc | apply pw_below_drewN | apply below_drew1) | exact HB.out)) hb); clear HB; have HB := n0_; clear n0_; (try clear hb); (try clear hb2); (try clear hk); (try clear hi)))
  go_ret
  exact ⟨by first | rfl | (simp [errW_none, errW_some] <;> rfl) | (simp [*, errW_none, errW_some] <;> rfl), by repeat (first | (with_reducible first | exact HB.out | apply below_alloc | apply pw_below_drewN | apply below_drew1) | exact HB.out)⟩

/-! ### fixed_Root: function 15 -/
def fixed_Root.l0 : Nat → Int → Int → Int → Option (Int)
  | 0, _, _, _ => none
  | k + 1, x0, x3, x4 => if x4 ≥ 0 then (if 0 ≤ x4 then (if (IntKind.u64.wrap ((Go.bits .or .u64 x3 (shl .u64 1 x4)) * (Go.bits .or .u64 x3 (shl .u64 1 x4)))) ≤ x0 then (fixed_Root.l0 k x0 (Go.bits .or .u64 x3 (shl .u64 1 x4)) (wrap64 (x4 - 1))) else (fixed_Root.l0 k x0 x3 (wrap64 (x4 - 1)))) else (none)) else (some ((x3) % 4294967296))
def fixed_Root.f (k : Nat) (a0 : Int) : Option (Int) := fixed_Root.l0 k a0 0 31
theorem fixed_Root.mono_l : ∀ k, (∀ y0 y1 y2, LeO (fixed_Root.l0 k y0 y1 y2) (fixed_Root.l0 (k + 1) y0 y1 y2))
  | 0 => fun _ _ _ r h => by simp [fixed_Root.l0] at h
  | k + 1 => by
    have ih0 := fixed_Root.mono_l k
    · intro y0 y1 y2
      unfold fixed_Root.l0
      repeat' first
      | (with_reducible exact ih0 _ _ _)
      | (with_reducible exact LeO.refl _)
      | (with_reducible exact LeO.none _)
      | (with_reducible refine LeO.ite ?_ ?_)
      | (with_reducible refine LeO.bind ?_ (fun _ => ?_))
      | exact ih0 _ _ _
      | exact LeO.none _
      | refine LeO.ite ?_ ?_
      | refine LeO.bind ?_ (fun _ => ?_)
theorem fixed_Root.mono : ∀ a0 k, LeO (fixed_Root.f k a0) (fixed_Root.f (k + 1) a0) := by
  intro a0 k
  have ih0 := fixed_Root.mono_l k
  unfold fixed_Root.f
  repeat' first
      | (with_reducible exact ih0 _ _ _)
      | (with_reducible exact LeO.refl _)
      | (with_reducible exact LeO.none _)
      | (with_reducible refine LeO.ite ?_ ?_)
      | (with_reducible refine LeO.bind ?_ (fun _ => ?_))
      | exact ih0 _ _ _
      | exact LeO.none _
      | refine LeO.ite ?_ ?_
      | refine LeO.bind ?_ (fun _ => ?_)
set_option maxHeartbeats 8000000 in
set_option maxRecDepth 100000 in
theorem fixed_Root.calls (k : Nat) (a0 : Int) (r : Int) (w : World) (h : fixed_Root.f k a0 = some r) :
    Calls Try.prog 15 #[.int .u64 a0] w fun e w' => e = .returned (.int .u32 r) ∧ Drawn0 w w' := by
  have H : (fixed_Root.l0 k a0 0 31) = some r := h
  clear h
  have H' := Aside0.mk H
  clear H
  go_enter Try.func15, Try.ntmps15
  go_wp2
  go_loopg [3, 4] k (fun kq v3 v4 w' => ∃ (x3_1 : Int) (x4_1 : Int), v3 = .int .u64 x3_1 ∧ v4 = .int .i64 x4_1 ∧ Aside0 (fixed_Root.l0 kq a0 x3_1 x4_1 = some r) ∧ Aside0 (kq ≤ k) ∧ Drawn0 w w')
  case atStart => exact ⟨(0), (31), (by first | rfl | (simp; done) | (simp [*]; done)), (by first | rfl | (simp; done) | (simp [*]; done)), H', ⟨Nat.le_refl _⟩, by repeat (first | exact Drawn0.refl _ | apply Drawn0.step)⟩
  case round =>
    clear H'
    try clear c1
    obtain ⟨x3_1, x4_1, rfl, rfl, HA, HK1, ⟨m1, rfl⟩⟩ := hrel
    cases gk with
    | zero => exact absurd HA.out (by simp [fixed_Root.l0])
    | succ k1 =>
      have H := HA.out
      clear HA
      simp only [fixed_Root.l0] at H
      by_cases c2 : x4_1 ≥ 0
      · rw [if_pos c2] at H
        have c2b0 : decide (0 ≤ x4_1) = true := decide_eq_true c2
        clear c2
        by_cases c3 : 0 ≤ x4_1
        · rw [if_pos c3] at H
          have c3b0 := eq_true c3
          have c3b1 : decide (0 ≤ x4_1) = true := decide_eq_true c3
          clear c3
          obtain ⟨ji4, hji4⟩ : ∃ j_ : Int, (shl .u64 1 x4_1) = j_ := ⟨_, rfl⟩
          replace H : (if (IntKind.u64.wrap ((Go.bits .or .u64 x3_1 (ji4)) * (Go.bits .or .u64 x3_1 (ji4)))) ≤ a0 then (fixed_Root.l0 k1 a0 (Go.bits .or .u64 x3_1 (ji4)) (wrap64 (x4_1 - 1))) else (fixed_Root.l0 k1 a0 x3_1 (wrap64 (x4_1 - 1)))) = some r := by first | (rw [hji4] at H; exact H) | (simp only [hji4] at H ⊢; exact H)
          have hji4_ : (IntKind.u64.wrap (1 * 2 ^ min x4_1.toNat 64)) = ji4 := hji4
          have hji4z : x4_1 ≤ 64 → (IntKind.u64.wrap (1 * 2 ^ x4_1.toNat)) = ji4 := shl_small hji4
          have hji4u : (IntKind.u64.wrap (2 ^ min x4_1.toNat 64)) = ji4 := by have h_ := hji4_; rw [Int.one_mul] at h_; exact h_
          have hji4v : x4_1 ≤ 64 → (IntKind.u64.wrap (2 ^ x4_1.toNat)) = ji4 := fun hle_ => by have h_ := hji4z hle_; rw [Int.one_mul] at h_; exact h_
          by_cases c5 : (IntKind.u64.wrap ((Go.bits .or .u64 x3_1 (ji4)) * (Go.bits .or .u64 x3_1 (ji4)))) ≤ a0
          · rw [if_pos c5] at H
            have c5b0 : decide ((IntKind.u64.wrap ((Go.bits .or .u64 x3_1 (ji4)) * (Go.bits .or .u64 x3_1 (ji4)))) ≤ a0) = true := decide_eq_true c5
            clear c5
            have H' := Aside0.mk H
            clear H
            go_wp2
            go_roundg k1
            case measure => have := HK1.out; omega
            case rel => exact ⟨(Go.bits .or .u64 x3_1 (ji4)), (wrap64 (x4_1 - 1)), (by first | rfl | (simp; done) | (simp only [← hji4] <;> (first | rfl | simp)) | (simp [*]; done)), (by first | rfl | (simp; done) | (simp [*]; done)), H', ⟨by have := HK1.out; omega⟩, by repeat (first | exact Drawn0.refl _ | apply Drawn0.step)⟩
          · rw [if_neg c5] at H
            have c5b0 : decide ((IntKind.u64.wrap ((Go.bits .or .u64 x3_1 (ji4)) * (Go.bits .or .u64 x3_1 (ji4)))) ≤ a0) = false := decide_eq_false c5
            clear c5
            have H' := Aside0.mk H
            clear H
            go_wp2
            go_roundg k1
            case measure => have := HK1.out; omega
            case rel => exact ⟨(x3_1), (wrap64 (x4_1 - 1)), (by first | rfl | (simp; done) | (simp [*]; done)), (by first | rfl | (simp; done) | (simp [*]; done)), H', ⟨by have := HK1.out; omega⟩, by repeat (first | exact Drawn0.refl _ | apply Drawn0.step)⟩
        · rw [if_neg c3] at H
          exact absurd H (by simp)
      · rw [if_neg c2] at H
        have c2b0 : decide (0 ≤ x4_1) = false := decide_eq_false c2
        clear c2
        obtain rfl := Option.some.inj H
        go_wp2
        go_ret
        exact ⟨by first | rfl | (simp; done) | (simp [*]; done), by repeat (first | exact Drawn0.refl _ | apply Drawn0.step)⟩

/-! ### fixed_Len: function 17 -/
def fixed_Len.f (k : Nat) (a0 : Int) (a1 : Int) : Option (Int) := (fixed_Root.f k (IntKind.u64.wrap ((IntKind.u64.wrap (wrap64 ((wrap64 (a0)) * (wrap64 (a0))))) + (IntKind.u64.wrap (wrap64 ((wrap64 (a1)) * (wrap64 (a1)))))))).bind fun t103 => ((fixed_keep.f (wrap64 (t103))).bind fun t104 => (some t104))
theorem fixed_Len.mono : ∀ a0 a1 k, LeO (fixed_Len.f k a0 a1) (fixed_Len.f (k + 1) a0 a1) := by
  intro a0 a1 k
  unfold fixed_Len.f
  repeat' first
      | (with_reducible exact fixed_Root.mono _ _)
      | (with_reducible exact LeO.refl _)
      | (with_reducible exact LeO.none _)
      | (with_reducible refine LeO.ite ?_ ?_)
      | (with_reducible refine LeO.bind ?_ (fun _ => ?_))
      | exact fixed_Root.mono _ _
      | exact LeO.none _
      | refine LeO.ite ?_ ?_
      | refine LeO.bind ?_ (fun _ => ?_)
set_option maxHeartbeats 8000000 in
set_option maxRecDepth 100000 in
theorem fixed_Len.calls (k : Nat) (a0 : Int) (a1 : Int) (r : Int) (w : World) (h : fixed_Len.f k a0 a1 = some r) :
    Calls Try.prog 17 #[.int .i32 a0, .int .i32 a1] w fun e w' => e = .returned (.int .i32 r) ∧ Below w.heap.size w w' := by
  have HB := Aside0.mk (Below.refl w.heap.size w)
  have H : ((fixed_Root.f k (IntKind.u64.wrap ((IntKind.u64.wrap (wrap64 ((wrap64 (a0)) * (wrap64 (a0))))) + (IntKind.u64.wrap (wrap64 ((wrap64 (a1)) * (wrap64 (a1)))))))).bind fun t103 => ((fixed_keep.f (wrap64 (t103))).bind fun t104 => (some t104))) = some r := h
  clear h
  replace H := Option.bind_eq_some_iff.mp H
  obtain ⟨t103, A30, H⟩ := H
  replace H : ((fixed_keep.f (wrap64 (t103))).bind fun t104 => (some t104)) = some r := H
  have A3 := Aside0.mk A30
  clear A30
  replace H := Option.bind_eq_some_iff.mp H
  obtain ⟨t104, A40, H⟩ := H
  replace H : (some t104) = some r := H
  have A4 := Aside0.mk A40
  clear A40
  obtain rfl := Option.some.inj H
  go_enter Try.func17, Try.ntmps17
  go_wp2_with (first | ((with_reducible refine gate_callee (f := 15) rfl ?_); refine goesL_ (some 18) rfl rfl Try.func15 (by kernel_rfl) rfl #[.int .u64 (IntKind.u64.wrap ((IntKind.u64.wrap (wrap64 ((wrap64 (a0)) * (wrap64 (a0))))) + (IntKind.u64.wrap (wrap64 ((wrap64 (a1)) * (wrap64 (a1)))))))] rfl (by (try simp only [List.map_toArray, List.map_cons, List.map_nil]); first | done | rfl | (simp only [List.length_drop, List.length_take]; rfl)) ?_; (with_reducible refine (fixed_Root.calls k (IntKind.u64.wrap ((IntKind.u64.wrap (wrap64 ((wrap64 (a0)) * (wrap64 (a0))))) + (IntKind.u64.wrap (wrap64 ((wrap64 (a1)) * (wrap64 (a1))))))) t103 _ A3.out).mono ?_); rintro e w' ⟨rfl, ⟨nd, rfl⟩⟩; refine ⟨_, rfl, ?_⟩) | ((with_reducible refine gate_callee (f := 27) rfl ?_); refine goesL_ (some 20) rfl rfl Try.func27 (by kernel_rfl) rfl #[.int .i64 (wrap64 (t103))] rfl (by (try simp only [List.map_toArray, List.map_cons, List.map_nil]); first | done | rfl | (simp only [List.length_drop, List.length_take]; rfl)) ?_; (with_reducible refine (fixed_keep.calls (wrap64 (t103)) t104 _ A4.out).mono ?_); rintro e w5 ⟨rfl, hb⟩; refine ⟨_, rfl, ?_⟩; have n0_ := Aside0.mk (below_step (by repeat (first | (with_reducible first | exact HB.out | apply below_alloc | apply pw_below_drewN | apply below_drew1) | exact HB.out)) hb); clear HB; have HB := n0_; clear n0_; (try clear hb); (try clear hb2); (try clear hk); (try clear hi)))
  go_ret
  exact ⟨by first | rfl | (simp [errW_none, errW_some] <;> rfl) | (simp [*, errW_none, errW_some] <;> rfl), by repeat (first | (with_reducible first | exact HB.out | apply below_alloc | apply pw_below_drewN | apply below_drew1) | exact HB.out)⟩

/-! ### fixed_Floor: function 22 -/
def fixed_Floor.f (a0 : Int) : Option (Int) := some (wrap64 (a0 / 256))
set_option maxHeartbeats 8000000 in
set_option maxRecDepth 100000 in
theorem fixed_Floor.calls (a0 : Int) (r : Int) (w : World) (h : fixed_Floor.f a0 = some r) :
    Calls Try.prog 22 #[.int .i32 a0] w fun e w' => e = .returned (.int .i64 r) ∧ Drawn0 w w' := by
  have H : (some (wrap64 (a0 / 256))) = some r := h
  clear h
  obtain rfl := Option.some.inj H
  go_enter Try.func22, Try.ntmps22
  go_wp2
  go_ret
  exact ⟨by first | rfl | (simp; done) | (simp [*]; done), by repeat (first | exact Drawn0.refl _ | apply Drawn0.step)⟩

/-! ### pinnacelaw04_awake: function 12 -/
def pinnacelaw04_awake.f (k : Nat)  : Option (Bool) := (fixed_Div.f 256 768).bind fun bt105 => ((fixed_Mul.f 384 (-384)).bind fun t107 => (if t107 = (-576) then (if bt105.1 = 85 then (if bt105.2 = 0 then ((fixed_Floor.f (-1)).bind fun t108 => (if t108 = (-1) then ((fixed_Root.f k 99).bind fun t109 => (if t109 = 9 then ((fixed_Len.f k 3 4).bind fun t110 => (some (t110 == 5))) else (some false))) else (some false))) else (some false)) else (some false)) else (some false)))
theorem pinnacelaw04_awake.mono : ∀ k, LeO (pinnacelaw04_awake.f k ) (pinnacelaw04_awake.f (k + 1) ) := by
  intro  k
  unfold pinnacelaw04_awake.f
  repeat' first
      | (with_reducible exact fixed_Len.mono _ _ _)
      | (with_reducible exact fixed_Root.mono _ _)
      | (with_reducible exact LeO.refl _)
      | (with_reducible exact LeO.none _)
      | (with_reducible refine LeO.ite ?_ ?_)
      | (with_reducible refine LeO.bind ?_ (fun _ => ?_))
      | exact fixed_Len.mono _ _ _
      | exact fixed_Root.mono _ _
      | exact LeO.none _
      | refine LeO.ite ?_ ?_
      | refine LeO.bind ?_ (fun _ => ?_)
set_option maxHeartbeats 8000000 in
set_option maxRecDepth 100000 in
theorem pinnacelaw04_awake.calls (k : Nat)  (r : Bool) (w : World) (h : pinnacelaw04_awake.f k  = some r) :
    Calls Try.prog 12 #[] w fun e w' => e = .returned (.bool r) ∧ Below w.heap.size w w' := by
  have HB := Aside0.mk (Below.refl w.heap.size w)
  have H : ((fixed_Div.f 256 768).bind fun bt105 => ((fixed_Mul.f 384 (-384)).bind fun t107 => (if t107 = (-576) then (if bt105.1 = 85 then (if bt105.2 = 0 then ((fixed_Floor.f (-1)).bind fun t108 => (if t108 = (-1) then ((fixed_Root.f k 99).bind fun t109 => (if t109 = 9 then ((fixed_Len.f k 3 4).bind fun t110 => (some (t110 == 5))) else (some false))) else (some false))) else (some false)) else (some false)) else (some false)))) = some r := h
  clear h
  replace H := Option.bind_eq_some_iff.mp H
  obtain ⟨⟨t105, t106⟩, A10, H⟩ := H
  replace H : ((fixed_Mul.f 384 (-384)).bind fun t107 => (if t107 = (-576) then (if t105 = 85 then (if t106 = 0 then ((fixed_Floor.f (-1)).bind fun t108 => (if t108 = (-1) then ((fixed_Root.f k 99).bind fun t109 => (if t109 = 9 then ((fixed_Len.f k 3 4).bind fun t110 => (some (t110 == 5))) else (some false))) else (some false))) else (some false)) else (some false)) else (some false))) = some r := H
  have A1 := Aside0.mk A10
  clear A10
  replace H := Option.bind_eq_some_iff.mp H
  obtain ⟨t107, A20, H⟩ := H
  replace H : (if t107 = (-576) then (if t105 = 85 then (if t106 = 0 then ((fixed_Floor.f (-1)).bind fun t108 => (if t108 = (-1) then ((fixed_Root.f k 99).bind fun t109 => (if t109 = 9 then ((fixed_Len.f k 3 4).bind fun t110 => (some (t110 == 5))) else (some false))) else (some false))) else (some false)) else (some false)) else (some false)) = some r := H
  have A2 := Aside0.mk A20
  clear A20
  by_cases c3 : t107 = (-576)
  · rw [if_pos c3] at H
    have c3b0 : (t107 == (-576)) = true := beq_iff_eq.mpr c3
    have c3b1 : (t107 != (-576)) = false := bne_eq_false_iff_eq.mpr c3
    clear c3
    by_cases c4 : t105 = 85
    · rw [if_pos c4] at H
      have c4b0 : (t105 == 85) = true := beq_iff_eq.mpr c4
      have c4b1 : (t105 != 85) = false := bne_eq_false_iff_eq.mpr c4
      clear c4
      by_cases c5 : t106 = 0
      · rw [if_pos c5] at H
        have c5b0 : (t106 == 0) = true := beq_iff_eq.mpr c5
        have c5b1 : (t106 != 0) = false := bne_eq_false_iff_eq.mpr c5
        clear c5
        replace H := Option.bind_eq_some_iff.mp H
        obtain ⟨t108, A60, H⟩ := H
        replace H : (if t108 = (-1) then ((fixed_Root.f k 99).bind fun t109 => (if t109 = 9 then ((fixed_Len.f k 3 4).bind fun t110 => (some (t110 == 5))) else (some false))) else (some false)) = some r := H
        have A6 := Aside0.mk A60
        clear A60
        by_cases c7 : t108 = (-1)
        · rw [if_pos c7] at H
          have c7b0 : (t108 == (-1)) = true := beq_iff_eq.mpr c7
          have c7b1 : (t108 != (-1)) = false := bne_eq_false_iff_eq.mpr c7
          clear c7
          replace H := Option.bind_eq_some_iff.mp H
          obtain ⟨t109, A80, H⟩ := H
          replace H : (if t109 = 9 then ((fixed_Len.f k 3 4).bind fun t110 => (some (t110 == 5))) else (some false)) = some r := H
          have A8 := Aside0.mk A80
          clear A80
          by_cases c9 : t109 = 9
          · rw [if_pos c9] at H
            have c9b0 : (t109 == 9) = true := beq_iff_eq.mpr c9
            have c9b1 : (t109 != 9) = false := bne_eq_false_iff_eq.mpr c9
            clear c9
            replace H := Option.bind_eq_some_iff.mp H
            obtain ⟨t110, A100, H⟩ := H
            replace H : (some (t110 == 5)) = some r := H
            have A10 := Aside0.mk A100
            clear A100
            obtain rfl := Option.some.inj H
            go_enter Try.func12, Try.ntmps12
            go_wp2_with (first | ((with_reducible refine gate_callee (f := 10) rfl ?_); refine goesL_ (some 4) rfl rfl Try.func10 (by kernel_rfl) rfl #[.int .i32 256, .int .i32 768] rfl (by (try simp only [List.map_toArray, List.map_cons, List.map_nil]); first | done | rfl | (simp only [List.length_drop, List.length_take]; rfl)) ?_; (with_reducible refine (fixed_Div.calls 256 768 t105 t106 _ A1.out).mono ?_); rintro e w11 ⟨rfl, hb⟩; refine ⟨_, rfl, ?_⟩; have n0_ := Aside0.mk (below_step (by repeat (first | (with_reducible first | exact HB.out | apply below_alloc | apply pw_below_drewN | apply below_drew1) | exact HB.out)) hb); clear HB; have HB := n0_; clear n0_; (try clear hb); (try clear hb2); (try clear hk); (try clear hi)) | ((with_reducible refine gate_callee (f := 13) rfl ?_); refine goesL_ (some 7) rfl rfl Try.func13 (by kernel_rfl) rfl #[.int .i32 384, .int .i32 (-384)] rfl (by (try simp only [List.map_toArray, List.map_cons, List.map_nil]); first | done | rfl | (simp only [List.length_drop, List.length_take]; rfl)) ?_; (with_reducible refine (fixed_Mul.calls 384 (-384) t107 _ A2.out).mono ?_); rintro e w12 ⟨rfl, hb⟩; refine ⟨_, rfl, ?_⟩; have n0_ := Aside0.mk (below_step (by repeat (first | (with_reducible first | exact HB.out | apply below_alloc | apply pw_below_drewN | apply below_drew1) | exact HB.out)) hb); clear HB; have HB := n0_; clear n0_; (try clear hb); (try clear hb2); (try clear hk); (try clear hi)) | (go_at_call 22; (with_reducible refine (fixed_Floor.calls (-1) t108 _ A6.out).mono ?_); rintro e w' ⟨rfl, ⟨nd, rfl⟩⟩) | (go_at_call 15; (with_reducible refine (fixed_Root.calls k 99 t109 _ A8.out).mono ?_); rintro e w' ⟨rfl, ⟨nd, rfl⟩⟩) | (go_at_call 17; (with_reducible refine (fixed_Len.calls k 3 4 t110 _ A10.out).mono ?_); rintro e w13 ⟨rfl, hb⟩; have n0_ := Aside0.mk (below_step (by repeat (first | (with_reducible first | exact HB.out | apply below_alloc | apply pw_below_drewN | apply below_drew1) | exact HB.out)) hb); clear HB; have HB := n0_; clear n0_; (try clear hb); (try clear hb2); (try clear hk); (try clear hi)))
            go_ret
            exact ⟨by first | rfl | (simp [errW_none, errW_some] <;> rfl) | (simp [*, errW_none, errW_some] <;> rfl), by repeat (first | (with_reducible first | exact HB.out | apply below_alloc | apply pw_below_drewN | apply below_drew1) | exact HB.out)⟩
          · rw [if_neg c9] at H
            have c9b0 : (t109 == 9) = false := beq_eq_false_iff_ne.mpr c9
            have c9b1 : (t109 != 9) = true := bne_iff_ne.mpr c9
            obtain rfl := Option.some.inj H
            go_enter Try.func12, Try.ntmps12
            go_wp2_with (first | ((with_reducible refine gate_callee (f := 10) rfl ?_); refine goesL_ (some 4) rfl rfl Try.func10 (by kernel_rfl) rfl #[.int .i32 256, .int .i32 768] rfl (by (try simp only [List.map_toArray, List.map_cons, List.map_nil]); first | done | rfl | (simp only [List.length_drop, List.length_take]; rfl)) ?_; (with_reducible refine (fixed_Div.calls 256 768 t105 t106 _ A1.out).mono ?_); rintro e w14 ⟨rfl, hb⟩; refine ⟨_, rfl, ?_⟩; have n0_ := Aside0.mk (below_step (by repeat (first | (with_reducible first | exact HB.out | apply below_alloc | apply pw_below_drewN | apply below_drew1) | exact HB.out)) hb); clear HB; have HB := n0_; clear n0_; (try clear hb); (try clear hb2); (try clear hk); (try clear hi)) | ((with_reducible refine gate_callee (f := 13) rfl ?_); refine goesL_ (some 7) rfl rfl Try.func13 (by kernel_rfl) rfl #[.int .i32 384, .int .i32 (-384)] rfl (by (try simp only [List.map_toArray, List.map_cons, List.map_nil]); first | done | rfl | (simp only [List.length_drop, List.length_take]; rfl)) ?_; (with_reducible refine (fixed_Mul.calls 384 (-384) t107 _ A2.out).mono ?_); rintro e w15 ⟨rfl, hb⟩; refine ⟨_, rfl, ?_⟩; have n0_ := Aside0.mk (below_step (by repeat (first | (with_reducible first | exact HB.out | apply below_alloc | apply pw_below_drewN | apply below_drew1) | exact HB.out)) hb); clear HB; have HB := n0_; clear n0_; (try clear hb); (try clear hb2); (try clear hk); (try clear hi)) | (go_at_call 22; (with_reducible refine (fixed_Floor.calls (-1) t108 _ A6.out).mono ?_); rintro e w' ⟨rfl, ⟨nd, rfl⟩⟩) | (go_at_call 15; (with_reducible refine (fixed_Root.calls k 99 t109 _ A8.out).mono ?_); rintro e w' ⟨rfl, ⟨nd, rfl⟩⟩))
            go_ret
            exact ⟨by first | rfl | (simp [errW_none, errW_some] <;> rfl) | (simp [*, errW_none, errW_some] <;> rfl), by repeat (first | (with_reducible first | exact HB.out | apply below_alloc | apply pw_below_drewN | apply below_drew1) | exact HB.out)⟩
        · rw [if_neg c7] at H
          have c7b0 : (t108 == (-1)) = false := beq_eq_false_iff_ne.mpr c7
          have c7b1 : (t108 != (-1)) = true := bne_iff_ne.mpr c7
          obtain rfl := Option.some.inj H
          go_enter Try.func12, Try.ntmps12
          go_wp2_with (first | ((with_reducible refine gate_callee (f := 10) rfl ?_); refine goesL_ (some 4) rfl rfl Try.func10 (by kernel_rfl) rfl #[.int .i32 256, .int .i32 768] rfl (by (try simp only [List.map_toArray, List.map_cons, List.map_nil]); first | done | rfl | (simp only [List.length_drop, List.length_take]; rfl)) ?_; (with_reducible refine (fixed_Div.calls 256 768 t105 t106 _ A1.out).mono ?_); rintro e w16 ⟨rfl, hb⟩; refine ⟨_, rfl, ?_⟩; have n0_ := Aside0.mk (below_step (by repeat (first | (with_reducible first | exact HB.out | apply below_alloc | apply pw_below_drewN | apply below_drew1) | exact HB.out)) hb); clear HB; have HB := n0_; clear n0_; (try clear hb); (try clear hb2); (try clear hk); (try clear hi)) | ((with_reducible refine gate_callee (f := 13) rfl ?_); refine goesL_ (some 7) rfl rfl Try.func13 (by kernel_rfl) rfl #[.int .i32 384, .int .i32 (-384)] rfl (by (try simp only [List.map_toArray, List.map_cons, List.map_nil]); first | done | rfl | (simp only [List.length_drop, List.length_take]; rfl)) ?_; (with_reducible refine (fixed_Mul.calls 384 (-384) t107 _ A2.out).mono ?_); rintro e w17 ⟨rfl, hb⟩; refine ⟨_, rfl, ?_⟩; have n0_ := Aside0.mk (below_step (by repeat (first | (with_reducible first | exact HB.out | apply below_alloc | apply pw_below_drewN | apply below_drew1) | exact HB.out)) hb); clear HB; have HB := n0_; clear n0_; (try clear hb); (try clear hb2); (try clear hk); (try clear hi)) | (go_at_call 22; (with_reducible refine (fixed_Floor.calls (-1) t108 _ A6.out).mono ?_); rintro e w' ⟨rfl, ⟨nd, rfl⟩⟩))
          go_ret
          exact ⟨by first | rfl | (simp [errW_none, errW_some] <;> rfl) | (simp [*, errW_none, errW_some] <;> rfl), by repeat (first | (with_reducible first | exact HB.out | apply below_alloc | apply pw_below_drewN | apply below_drew1) | exact HB.out)⟩
      · rw [if_neg c5] at H
        have c5b0 : (t106 == 0) = false := beq_eq_false_iff_ne.mpr c5
        have c5b1 : (t106 != 0) = true := bne_iff_ne.mpr c5
        obtain rfl := Option.some.inj H
        go_enter Try.func12, Try.ntmps12
        go_wp2_with (first | ((with_reducible refine gate_callee (f := 10) rfl ?_); refine goesL_ (some 4) rfl rfl Try.func10 (by kernel_rfl) rfl #[.int .i32 256, .int .i32 768] rfl (by (try simp only [List.map_toArray, List.map_cons, List.map_nil]); first | done | rfl | (simp only [List.length_drop, List.length_take]; rfl)) ?_; (with_reducible refine (fixed_Div.calls 256 768 t105 t106 _ A1.out).mono ?_); rintro e w18 ⟨rfl, hb⟩; refine ⟨_, rfl, ?_⟩; have n0_ := Aside0.mk (below_step (by repeat (first | (with_reducible first | exact HB.out | apply below_alloc | apply pw_below_drewN | apply below_drew1) | exact HB.out)) hb); clear HB; have HB := n0_; clear n0_; (try clear hb); (try clear hb2); (try clear hk); (try clear hi)) | ((with_reducible refine gate_callee (f := 13) rfl ?_); refine goesL_ (some 7) rfl rfl Try.func13 (by kernel_rfl) rfl #[.int .i32 384, .int .i32 (-384)] rfl (by (try simp only [List.map_toArray, List.map_cons, List.map_nil]); first | done | rfl | (simp only [List.length_drop, List.length_take]; rfl)) ?_; (with_reducible refine (fixed_Mul.calls 384 (-384) t107 _ A2.out).mono ?_); rintro e w19 ⟨rfl, hb⟩; refine ⟨_, rfl, ?_⟩; have n0_ := Aside0.mk (below_step (by repeat (first | (with_reducible first | exact HB.out | apply below_alloc | apply pw_below_drewN | apply below_drew1) | exact HB.out)) hb); clear HB; have HB := n0_; clear n0_; (try clear hb); (try clear hb2); (try clear hk); (try clear hi)))
        go_ret
        exact ⟨by first | rfl | (simp [errW_none, errW_some] <;> rfl) | (simp [*, errW_none, errW_some] <;> rfl), by repeat (first | (with_reducible first | exact HB.out | apply below_alloc | apply pw_below_drewN | apply below_drew1) | exact HB.out)⟩
    · rw [if_neg c4] at H
      have c4b0 : (t105 == 85) = false := beq_eq_false_iff_ne.mpr c4
      have c4b1 : (t105 != 85) = true := bne_iff_ne.mpr c4
      obtain rfl := Option.some.inj H
      go_enter Try.func12, Try.ntmps12
      go_wp2_with (first | ((with_reducible refine gate_callee (f := 10) rfl ?_); refine goesL_ (some 4) rfl rfl Try.func10 (by kernel_rfl) rfl #[.int .i32 256, .int .i32 768] rfl (by (try simp only [List.map_toArray, List.map_cons, List.map_nil]); first | done | rfl | (simp only [List.length_drop, List.length_take]; rfl)) ?_; (with_reducible refine (fixed_Div.calls 256 768 t105 t106 _ A1.out).mono ?_); rintro e w20 ⟨rfl, hb⟩; refine ⟨_, rfl, ?_⟩; have n0_ := Aside0.mk (below_step (by repeat (first | (with_reducible first | exact HB.out | apply below_alloc | apply pw_below_drewN | apply below_drew1) | exact HB.out)) hb); clear HB; have HB := n0_; clear n0_; (try clear hb); (try clear hb2); (try clear hk); (try clear hi)) | ((with_reducible refine gate_callee (f := 13) rfl ?_); refine goesL_ (some 7) rfl rfl Try.func13 (by kernel_rfl) rfl #[.int .i32 384, .int .i32 (-384)] rfl (by (try simp only [List.map_toArray, List.map_cons, List.map_nil]); first | done | rfl | (simp only [List.length_drop, List.length_take]; rfl)) ?_; (with_reducible refine (fixed_Mul.calls 384 (-384) t107 _ A2.out).mono ?_); rintro e w21 ⟨rfl, hb⟩; refine ⟨_, rfl, ?_⟩; have n0_ := Aside0.mk (below_step (by repeat (first | (with_reducible first | exact HB.out | apply below_alloc | apply pw_below_drewN | apply below_drew1) | exact HB.out)) hb); clear HB; have HB := n0_; clear n0_; (try clear hb); (try clear hb2); (try clear hk); (try clear hi)))
      go_ret
      exact ⟨by first | rfl | (simp [errW_none, errW_some] <;> rfl) | (simp [*, errW_none, errW_some] <;> rfl), by repeat (first | (with_reducible first | exact HB.out | apply below_alloc | apply pw_below_drewN | apply below_drew1) | exact HB.out)⟩
  · rw [if_neg c3] at H
    have c3b0 : (t107 == (-576)) = false := beq_eq_false_iff_ne.mpr c3
    have c3b1 : (t107 != (-576)) = true := bne_iff_ne.mpr c3
    obtain rfl := Option.some.inj H
    go_enter Try.func12, Try.ntmps12
    go_wp2_with (first | ((with_reducible refine gate_callee (f := 10) rfl ?_); refine goesL_ (some 4) rfl rfl Try.func10 (by kernel_rfl) rfl #[.int .i32 256, .int .i32 768] rfl (by (try simp only [List.map_toArray, List.map_cons, List.map_nil]); first | done | rfl | (simp only [List.length_drop, List.length_take]; rfl)) ?_; (with_reducible refine (fixed_Div.calls 256 768 t105 t106 _ A1.out).mono ?_); rintro e w22 ⟨rfl, hb⟩; refine ⟨_, rfl, ?_⟩; have n0_ := Aside0.mk (below_step (by repeat (first | (with_reducible first | exact HB.out | apply below_alloc | apply pw_below_drewN | apply below_drew1) | exact HB.out)) hb); clear HB; have HB := n0_; clear n0_; (try clear hb); (try clear hb2); (try clear hk); (try clear hi)) | ((with_reducible refine gate_callee (f := 13) rfl ?_); refine goesL_ (some 7) rfl rfl Try.func13 (by kernel_rfl) rfl #[.int .i32 384, .int .i32 (-384)] rfl (by (try simp only [List.map_toArray, List.map_cons, List.map_nil]); first | done | rfl | (simp only [List.length_drop, List.length_take]; rfl)) ?_; (with_reducible refine (fixed_Mul.calls 384 (-384) t107 _ A2.out).mono ?_); rintro e w23 ⟨rfl, hb⟩; refine ⟨_, rfl, ?_⟩; have n0_ := Aside0.mk (below_step (by repeat (first | (with_reducible first | exact HB.out | apply below_alloc | apply pw_below_drewN | apply below_drew1) | exact HB.out)) hb); clear HB; have HB := n0_; clear n0_; (try clear hb); (try clear hb2); (try clear hk); (try clear hi)))
    go_ret
    exact ⟨by first | rfl | (simp [errW_none, errW_some] <;> rfl) | (simp [*, errW_none, errW_some] <;> rfl), by repeat (first | (with_reducible first | exact HB.out | apply below_alloc | apply pw_below_drewN | apply below_drew1) | exact HB.out)⟩

/-! ### pinnaceref04_Root: function 16 -/
def pinnaceref04_Root.l0 : Nat → Int → Int → Int → Option (Int)
  | 0, _, _, _ => none
  | k + 1, x0, x3, x4 => if (IntKind.u64.wrap (x4 - x3)) > 1 then (if (IntKind.u64.wrap ((IntKind.u64.wrap (Int.tdiv (IntKind.u64.wrap (x3 + x4)) 2)) * (IntKind.u64.wrap (Int.tdiv (IntKind.u64.wrap (x3 + x4)) 2)))) ≤ x0 then (pinnaceref04_Root.l0 k x0 (IntKind.u64.wrap (Int.tdiv (IntKind.u64.wrap (x3 + x4)) 2)) x4) else (pinnaceref04_Root.l0 k x0 x3 (IntKind.u64.wrap (Int.tdiv (IntKind.u64.wrap (x3 + x4)) 2)))) else (some ((x3) % 4294967296))
def pinnaceref04_Root.f (k : Nat) (a0 : Int) : Option (Int) := pinnaceref04_Root.l0 k a0 0 4294967296
theorem pinnaceref04_Root.mono_l : ∀ k, (∀ y0 y1 y2, LeO (pinnaceref04_Root.l0 k y0 y1 y2) (pinnaceref04_Root.l0 (k + 1) y0 y1 y2))
  | 0 => fun _ _ _ r h => by simp [pinnaceref04_Root.l0] at h
  | k + 1 => by
    have ih0 := pinnaceref04_Root.mono_l k
    · intro y0 y1 y2
      unfold pinnaceref04_Root.l0
      repeat' first
      | (with_reducible exact ih0 _ _ _)
      | (with_reducible exact LeO.refl _)
      | (with_reducible exact LeO.none _)
      | (with_reducible refine LeO.ite ?_ ?_)
      | (with_reducible refine LeO.bind ?_ (fun _ => ?_))
      | exact ih0 _ _ _
      | exact LeO.none _
      | refine LeO.ite ?_ ?_
      | refine LeO.bind ?_ (fun _ => ?_)
theorem pinnaceref04_Root.mono : ∀ a0 k, LeO (pinnaceref04_Root.f k a0) (pinnaceref04_Root.f (k + 1) a0) := by
  intro a0 k
  have ih0 := pinnaceref04_Root.mono_l k
  unfold pinnaceref04_Root.f
  repeat' first
      | (with_reducible exact ih0 _ _ _)
      | (with_reducible exact LeO.refl _)
      | (with_reducible exact LeO.none _)
      | (with_reducible refine LeO.ite ?_ ?_)
      | (with_reducible refine LeO.bind ?_ (fun _ => ?_))
      | exact ih0 _ _ _
      | exact LeO.none _
      | refine LeO.ite ?_ ?_
      | refine LeO.bind ?_ (fun _ => ?_)
set_option maxHeartbeats 8000000 in
set_option maxRecDepth 100000 in
theorem pinnaceref04_Root.calls (k : Nat) (a0 : Int) (r : Int) (w : World) (h : pinnaceref04_Root.f k a0 = some r) :
    Calls Try.prog 16 #[.int .u64 a0] w fun e w' => e = .returned (.int .u32 r) ∧ Drawn0 w w' := by
  have H : (pinnaceref04_Root.l0 k a0 0 4294967296) = some r := h
  clear h
  have H' := Aside0.mk H
  clear H
  go_enter Try.func16, Try.ntmps16
  go_wp2
  go_loopg [3, 4] k (fun kq v3 v4 w' => ∃ (x3_1 : Int) (x4_1 : Int), v3 = .int .u64 x3_1 ∧ v4 = .int .u64 x4_1 ∧ Aside0 (pinnaceref04_Root.l0 kq a0 x3_1 x4_1 = some r) ∧ Aside0 (kq ≤ k) ∧ Drawn0 w w')
  case atStart => exact ⟨(0), (4294967296), (by first | rfl | (simp; done) | (simp [*]; done)), (by first | rfl | (simp; done) | (simp [*]; done)), H', ⟨Nat.le_refl _⟩, by repeat (first | exact Drawn0.refl _ | apply Drawn0.step)⟩
  case round =>
    clear H'
    try clear c1
    obtain ⟨x3_1, x4_1, rfl, rfl, HA, HK1, ⟨m1, rfl⟩⟩ := hrel
    cases gk with
    | zero => exact absurd HA.out (by simp [pinnaceref04_Root.l0])
    | succ k1 =>
      have H := HA.out
      clear HA
      simp only [pinnaceref04_Root.l0] at H
      by_cases c2 : (IntKind.u64.wrap (x4_1 - x3_1)) > 1
      · rw [if_pos c2] at H
        have c2b0 : decide (1 < (IntKind.u64.wrap (x4_1 - x3_1))) = true := decide_eq_true c2
        clear c2
        by_cases c3 : (IntKind.u64.wrap ((IntKind.u64.wrap (Int.tdiv (IntKind.u64.wrap (x3_1 + x4_1)) 2)) * (IntKind.u64.wrap (Int.tdiv (IntKind.u64.wrap (x3_1 + x4_1)) 2)))) ≤ a0
        · rw [if_pos c3] at H
          have c3b0 : decide ((IntKind.u64.wrap ((IntKind.u64.wrap (Int.tdiv (IntKind.u64.wrap (x3_1 + x4_1)) 2)) * (IntKind.u64.wrap (Int.tdiv (IntKind.u64.wrap (x3_1 + x4_1)) 2)))) ≤ a0) = true := decide_eq_true c3
          clear c3
          have H' := Aside0.mk H
          clear H
          go_wp2
          go_roundg k1
          case measure => have := HK1.out; omega
          case rel => exact ⟨(IntKind.u64.wrap (Int.tdiv (IntKind.u64.wrap (x3_1 + x4_1)) 2)), (x4_1), (by first | rfl | (simp; done) | (simp [*]; done)), (by first | rfl | (simp; done) | (simp [*]; done)), H', ⟨by have := HK1.out; omega⟩, by repeat (first | exact Drawn0.refl _ | apply Drawn0.step)⟩
        · rw [if_neg c3] at H
          have c3b0 : decide ((IntKind.u64.wrap ((IntKind.u64.wrap (Int.tdiv (IntKind.u64.wrap (x3_1 + x4_1)) 2)) * (IntKind.u64.wrap (Int.tdiv (IntKind.u64.wrap (x3_1 + x4_1)) 2)))) ≤ a0) = false := decide_eq_false c3
          clear c3
          have H' := Aside0.mk H
          clear H
          go_wp2
          go_roundg k1
          case measure => have := HK1.out; omega
          case rel => exact ⟨(x3_1), (IntKind.u64.wrap (Int.tdiv (IntKind.u64.wrap (x3_1 + x4_1)) 2)), (by first | rfl | (simp; done) | (simp [*]; done)), (by first | rfl | (simp; done) | (simp [*]; done)), H', ⟨by have := HK1.out; omega⟩, by repeat (first | exact Drawn0.refl _ | apply Drawn0.step)⟩
      · rw [if_neg c2] at H
        have c2b0 : decide (1 < (IntKind.u64.wrap (x4_1 - x3_1))) = false := decide_eq_false c2
        clear c2
        obtain rfl := Option.some.inj H
        go_wp2
        go_ret
        exact ⟨by first | rfl | (simp; done) | (simp [*]; done), by repeat (first | exact Drawn0.refl _ | apply Drawn0.step)⟩

/-! ### pinnaceref04_Keep: function 20 -/
def pinnaceref04_Keep.f (a0 : Int) : Option (Int) := if a0 < (-2147483648) then (some (-2147483648)) else (if a0 > 2147483647 then (some 2147483647) else (some (wrap32 (a0))))
set_option maxHeartbeats 8000000 in
set_option maxRecDepth 100000 in
theorem pinnaceref04_Keep.calls (a0 : Int) (r : Int) (w : World) (h : pinnaceref04_Keep.f a0 = some r) :
    Calls Try.prog 20 #[.int .i64 a0] w fun e w' => e = .returned (.int .i32 r) ∧ Drawn0 w w' := by
  have H : (if a0 < (-2147483648) then (some (-2147483648)) else (if a0 > 2147483647 then (some 2147483647) else (some (wrap32 (a0))))) = some r := h
  clear h
  by_cases c2 : a0 < (-2147483648)
  · rw [if_pos c2] at H
    have c2b0 : decide (a0 < (-2147483648)) = true := decide_eq_true c2
    clear c2
    obtain rfl := Option.some.inj H
    go_enter Try.func20, Try.ntmps20
    go_wp2
    go_ret
    exact ⟨by first | rfl | (simp; done) | (simp [*]; done), by repeat (first | exact Drawn0.refl _ | apply Drawn0.step)⟩
  · rw [if_neg c2] at H
    have c2b0 : decide (a0 < (-2147483648)) = false := decide_eq_false c2
    clear c2
    by_cases c3 : a0 > 2147483647
    · rw [if_pos c3] at H
      have c3b0 : decide (2147483647 < a0) = true := decide_eq_true c3
      clear c3
      obtain rfl := Option.some.inj H
      go_enter Try.func20, Try.ntmps20
      go_wp2
      go_ret
      exact ⟨by first | rfl | (simp; done) | (simp [*]; done), by repeat (first | exact Drawn0.refl _ | apply Drawn0.step)⟩
    · rw [if_neg c3] at H
      have c3b0 : decide (2147483647 < a0) = false := decide_eq_false c3
      clear c3
      obtain rfl := Option.some.inj H
      go_enter Try.func20, Try.ntmps20
      go_wp2
      go_ret
      exact ⟨by first | rfl | (simp; done) | (simp [*]; done), by repeat (first | exact Drawn0.refl _ | apply Drawn0.step)⟩

/-! ### pinnaceref04_Len: function 18 -/
def pinnaceref04_Len.f (k : Nat) (a0 : Int) (a1 : Int) : Option (Int) := (pinnaceref04_Root.f k (IntKind.u64.wrap ((IntKind.u64.wrap (wrap64 ((wrap64 (a0)) * (wrap64 (a0))))) + (IntKind.u64.wrap (wrap64 ((wrap64 (a1)) * (wrap64 (a1)))))))).bind fun t111 => ((pinnaceref04_Keep.f (wrap64 (t111))).bind fun t112 => (some t112))
theorem pinnaceref04_Len.mono : ∀ a0 a1 k, LeO (pinnaceref04_Len.f k a0 a1) (pinnaceref04_Len.f (k + 1) a0 a1) := by
  intro a0 a1 k
  unfold pinnaceref04_Len.f
  repeat' first
      | (with_reducible exact pinnaceref04_Root.mono _ _)
      | (with_reducible exact LeO.refl _)
      | (with_reducible exact LeO.none _)
      | (with_reducible refine LeO.ite ?_ ?_)
      | (with_reducible refine LeO.bind ?_ (fun _ => ?_))
      | exact pinnaceref04_Root.mono _ _
      | exact LeO.none _
      | refine LeO.ite ?_ ?_
      | refine LeO.bind ?_ (fun _ => ?_)
set_option maxHeartbeats 8000000 in
set_option maxRecDepth 100000 in
theorem pinnaceref04_Len.calls (k : Nat) (a0 : Int) (a1 : Int) (r : Int) (w : World) (h : pinnaceref04_Len.f k a0 a1 = some r) :
    Calls Try.prog 18 #[.int .i32 a0, .int .i32 a1] w fun e w' => e = .returned (.int .i32 r) ∧ Drawn0 w w' := by
  have H : ((pinnaceref04_Root.f k (IntKind.u64.wrap ((IntKind.u64.wrap (wrap64 ((wrap64 (a0)) * (wrap64 (a0))))) + (IntKind.u64.wrap (wrap64 ((wrap64 (a1)) * (wrap64 (a1)))))))).bind fun t111 => ((pinnaceref04_Keep.f (wrap64 (t111))).bind fun t112 => (some t112))) = some r := h
  clear h
  replace H := Option.bind_eq_some_iff.mp H
  obtain ⟨t111, A30, H⟩ := H
  replace H : ((pinnaceref04_Keep.f (wrap64 (t111))).bind fun t112 => (some t112)) = some r := H
  have A3 := Aside0.mk A30
  clear A30
  replace H := Option.bind_eq_some_iff.mp H
  obtain ⟨t112, A40, H⟩ := H
  replace H : (some t112) = some r := H
  have A4 := Aside0.mk A40
  clear A40
  obtain rfl := Option.some.inj H
  go_enter Try.func18, Try.ntmps18
  go_wp2_with (first | ((with_reducible refine gate_callee (f := 16) rfl ?_); refine goesL_ (some 20) rfl rfl Try.func16 (by kernel_rfl) rfl #[.int .u64 (IntKind.u64.wrap ((IntKind.u64.wrap (wrap64 ((wrap64 (a0)) * (wrap64 (a0))))) + (IntKind.u64.wrap (wrap64 ((wrap64 (a1)) * (wrap64 (a1)))))))] rfl (by (try simp only [List.map_toArray, List.map_cons, List.map_nil]); first | done | rfl | (simp only [List.length_drop, List.length_take]; rfl)) ?_; (with_reducible refine (pinnaceref04_Root.calls k (IntKind.u64.wrap ((IntKind.u64.wrap (wrap64 ((wrap64 (a0)) * (wrap64 (a0))))) + (IntKind.u64.wrap (wrap64 ((wrap64 (a1)) * (wrap64 (a1))))))) t111 _ A3.out).mono ?_); rintro e w' ⟨rfl, ⟨nd, rfl⟩⟩; refine ⟨_, rfl, ?_⟩) | ((with_reducible refine gate_callee (f := 20) rfl ?_); refine goesL_ (some 22) rfl rfl Try.func20 (by kernel_rfl) rfl #[.int .i64 (wrap64 (t111))] rfl (by (try simp only [List.map_toArray, List.map_cons, List.map_nil]); first | done | rfl | (simp only [List.length_drop, List.length_take]; rfl)) ?_; (with_reducible refine (pinnaceref04_Keep.calls (wrap64 (t111)) t112 _ A4.out).mono ?_); rintro e w' ⟨rfl, ⟨nd, rfl⟩⟩; refine ⟨_, rfl, ?_⟩))
  go_ret
  exact ⟨by first | rfl | (simp; done) | (simp [*]; done), by repeat (first | exact Drawn0.refl _ | apply Drawn0.step)⟩

/-! ### pinnacelaw04_FixedRoots: function 4 -/
def pinnacelaw04_FixedRoots.f (k : Nat) (a0 : Int) (a1 : Int) (a2 : Int) : Option (Bool) := (pinnacelaw04_awake.f k).bind fun t113 => (if t113 = true then ((fixed_Root.f k a0).bind fun t114 => ((pinnaceref04_Root.f k a0).bind fun t115 => (if t114 = t115 then ((fixed_Len.f k a1 a2).bind fun t116 => ((pinnaceref04_Len.f k a1 a2).bind fun t117 => (if t116 = t117 then ((fixed_Root.f k a0).bind fun t118 => (if (IntKind.u64.wrap ((IntKind.u64.wrap (t118)) * (IntKind.u64.wrap (t118)))) ≤ a0 then (if (IntKind.u64.wrap (t118)) = 4294967295 then (some true) else (some (decide ((IntKind.u64.wrap ((IntKind.u64.wrap ((IntKind.u64.wrap (t118)) + 1)) * (IntKind.u64.wrap ((IntKind.u64.wrap (t118)) + 1)))) > a0)))) else (some false))) else (some false)))) else (some false)))) else (some false))
theorem pinnacelaw04_FixedRoots.mono : ∀ a0 a1 a2 k, LeO (pinnacelaw04_FixedRoots.f k a0 a1 a2) (pinnacelaw04_FixedRoots.f (k + 1) a0 a1 a2) := by
  intro a0 a1 a2 k
  unfold pinnacelaw04_FixedRoots.f
  repeat' first
      | (with_reducible exact fixed_Len.mono _ _ _)
      | (with_reducible exact fixed_Root.mono _ _)
      | (with_reducible exact pinnacelaw04_awake.mono _)
      | (with_reducible exact pinnaceref04_Len.mono _ _ _)
      | (with_reducible exact pinnaceref04_Root.mono _ _)
      | (with_reducible exact LeO.refl _)
      | (with_reducible exact LeO.none _)
      | (with_reducible refine LeO.ite ?_ ?_)
      | (with_reducible refine LeO.bind ?_ (fun _ => ?_))
      | exact fixed_Len.mono _ _ _
      | exact fixed_Root.mono _ _
      | exact pinnacelaw04_awake.mono _
      | exact pinnaceref04_Len.mono _ _ _
      | exact pinnaceref04_Root.mono _ _
      | exact LeO.none _
      | refine LeO.ite ?_ ?_
      | refine LeO.bind ?_ (fun _ => ?_)
set_option maxHeartbeats 8000000 in
set_option maxRecDepth 100000 in
theorem pinnacelaw04_FixedRoots.calls (k : Nat) (a0 : Int) (a1 : Int) (a2 : Int) (r : Bool) (w : World) (h : pinnacelaw04_FixedRoots.f k a0 a1 a2 = some r) :
    Calls Try.prog 4 #[.int .u64 a0, .int .i32 a1, .int .i32 a2] w fun e w' => e = .returned (.bool r) ∧ Below w.heap.size w w' := by
  have HB := Aside0.mk (Below.refl w.heap.size w)
  have H : ((pinnacelaw04_awake.f k).bind fun t113 => (if t113 = true then ((fixed_Root.f k a0).bind fun t114 => ((pinnaceref04_Root.f k a0).bind fun t115 => (if t114 = t115 then ((fixed_Len.f k a1 a2).bind fun t116 => ((pinnaceref04_Len.f k a1 a2).bind fun t117 => (if t116 = t117 then ((fixed_Root.f k a0).bind fun t118 => (if (IntKind.u64.wrap ((IntKind.u64.wrap (t118)) * (IntKind.u64.wrap (t118)))) ≤ a0 then (if (IntKind.u64.wrap (t118)) = 4294967295 then (some true) else (some (decide ((IntKind.u64.wrap ((IntKind.u64.wrap ((IntKind.u64.wrap (t118)) + 1)) * (IntKind.u64.wrap ((IntKind.u64.wrap (t118)) + 1)))) > a0)))) else (some false))) else (some false)))) else (some false)))) else (some false))) = some r := h
  clear h
  replace H := Option.bind_eq_some_iff.mp H
  obtain ⟨t113, A40, H⟩ := H
  replace H : (if t113 = true then ((fixed_Root.f k a0).bind fun t114 => ((pinnaceref04_Root.f k a0).bind fun t115 => (if t114 = t115 then ((fixed_Len.f k a1 a2).bind fun t116 => ((pinnaceref04_Len.f k a1 a2).bind fun t117 => (if t116 = t117 then ((fixed_Root.f k a0).bind fun t118 => (if (IntKind.u64.wrap ((IntKind.u64.wrap (t118)) * (IntKind.u64.wrap (t118)))) ≤ a0 then (if (IntKind.u64.wrap (t118)) = 4294967295 then (some true) else (some (decide ((IntKind.u64.wrap ((IntKind.u64.wrap ((IntKind.u64.wrap (t118)) + 1)) * (IntKind.u64.wrap ((IntKind.u64.wrap (t118)) + 1)))) > a0)))) else (some false))) else (some false)))) else (some false)))) else (some false)) = some r := H
  have A4 := Aside0.mk A40
  clear A40
  by_cases c5 : t113 = true
  · subst c5
    have H1 : ((fixed_Root.f k a0).bind fun t114 => ((pinnaceref04_Root.f k a0).bind fun t115 => (if t114 = t115 then ((fixed_Len.f k a1 a2).bind fun t116 => ((pinnaceref04_Len.f k a1 a2).bind fun t117 => (if t116 = t117 then ((fixed_Root.f k a0).bind fun t118 => (if (IntKind.u64.wrap ((IntKind.u64.wrap (t118)) * (IntKind.u64.wrap (t118)))) ≤ a0 then (if (IntKind.u64.wrap (t118)) = 4294967295 then (some true) else (some (decide ((IntKind.u64.wrap ((IntKind.u64.wrap ((IntKind.u64.wrap (t118)) + 1)) * (IntKind.u64.wrap ((IntKind.u64.wrap (t118)) + 1)))) > a0)))) else (some false))) else (some false)))) else (some false)))) = some r := by rw [if_pos rfl] at H; exact H
    clear H
    have H := H1
    clear H1
    replace H := Option.bind_eq_some_iff.mp H
    obtain ⟨t114, A60, H⟩ := H
    replace H : ((pinnaceref04_Root.f k a0).bind fun t115 => (if t114 = t115 then ((fixed_Len.f k a1 a2).bind fun t116 => ((pinnaceref04_Len.f k a1 a2).bind fun t117 => (if t116 = t117 then ((fixed_Root.f k a0).bind fun t118 => (if (IntKind.u64.wrap ((IntKind.u64.wrap (t118)) * (IntKind.u64.wrap (t118)))) ≤ a0 then (if (IntKind.u64.wrap (t118)) = 4294967295 then (some true) else (some (decide ((IntKind.u64.wrap ((IntKind.u64.wrap ((IntKind.u64.wrap (t118)) + 1)) * (IntKind.u64.wrap ((IntKind.u64.wrap (t118)) + 1)))) > a0)))) else (some false))) else (some false)))) else (some false))) = some r := H
    have A6 := Aside0.mk A60
    clear A60
    replace H := Option.bind_eq_some_iff.mp H
    obtain ⟨t115, A70, H⟩ := H
    replace H : (if t114 = t115 then ((fixed_Len.f k a1 a2).bind fun t116 => ((pinnaceref04_Len.f k a1 a2).bind fun t117 => (if t116 = t117 then ((fixed_Root.f k a0).bind fun t118 => (if (IntKind.u64.wrap ((IntKind.u64.wrap (t118)) * (IntKind.u64.wrap (t118)))) ≤ a0 then (if (IntKind.u64.wrap (t118)) = 4294967295 then (some true) else (some (decide ((IntKind.u64.wrap ((IntKind.u64.wrap ((IntKind.u64.wrap (t118)) + 1)) * (IntKind.u64.wrap ((IntKind.u64.wrap (t118)) + 1)))) > a0)))) else (some false))) else (some false)))) else (some false)) = some r := H
    have A7 := Aside0.mk A70
    clear A70
    by_cases c8 : t114 = t115
    · rw [if_pos c8] at H
      have c8b0 : (t114 == t115) = true := beq_iff_eq.mpr c8
      have c8b1 : (t114 != t115) = false := bne_eq_false_iff_eq.mpr c8
      clear c8
      replace H := Option.bind_eq_some_iff.mp H
      obtain ⟨t116, A90, H⟩ := H
      replace H : ((pinnaceref04_Len.f k a1 a2).bind fun t117 => (if t116 = t117 then ((fixed_Root.f k a0).bind fun t118 => (if (IntKind.u64.wrap ((IntKind.u64.wrap (t118)) * (IntKind.u64.wrap (t118)))) ≤ a0 then (if (IntKind.u64.wrap (t118)) = 4294967295 then (some true) else (some (decide ((IntKind.u64.wrap ((IntKind.u64.wrap ((IntKind.u64.wrap (t118)) + 1)) * (IntKind.u64.wrap ((IntKind.u64.wrap (t118)) + 1)))) > a0)))) else (some false))) else (some false))) = some r := H
      have A9 := Aside0.mk A90
      clear A90
      replace H := Option.bind_eq_some_iff.mp H
      obtain ⟨t117, A100, H⟩ := H
      replace H : (if t116 = t117 then ((fixed_Root.f k a0).bind fun t118 => (if (IntKind.u64.wrap ((IntKind.u64.wrap (t118)) * (IntKind.u64.wrap (t118)))) ≤ a0 then (if (IntKind.u64.wrap (t118)) = 4294967295 then (some true) else (some (decide ((IntKind.u64.wrap ((IntKind.u64.wrap ((IntKind.u64.wrap (t118)) + 1)) * (IntKind.u64.wrap ((IntKind.u64.wrap (t118)) + 1)))) > a0)))) else (some false))) else (some false)) = some r := H
      have A10 := Aside0.mk A100
      clear A100
      by_cases c11 : t116 = t117
      · rw [if_pos c11] at H
        have c11b0 : (t116 == t117) = true := beq_iff_eq.mpr c11
        have c11b1 : (t116 != t117) = false := bne_eq_false_iff_eq.mpr c11
        clear c11
        replace H := Option.bind_eq_some_iff.mp H
        obtain ⟨t118, A120, H⟩ := H
        replace H : (if (IntKind.u64.wrap ((IntKind.u64.wrap (t118)) * (IntKind.u64.wrap (t118)))) ≤ a0 then (if (IntKind.u64.wrap (t118)) = 4294967295 then (some true) else (some (decide ((IntKind.u64.wrap ((IntKind.u64.wrap ((IntKind.u64.wrap (t118)) + 1)) * (IntKind.u64.wrap ((IntKind.u64.wrap (t118)) + 1)))) > a0)))) else (some false)) = some r := H
        have A12 := Aside0.mk A120
        clear A120
        by_cases c13 : (IntKind.u64.wrap ((IntKind.u64.wrap (t118)) * (IntKind.u64.wrap (t118)))) ≤ a0
        · rw [if_pos c13] at H
          have c13b0 : decide ((IntKind.u64.wrap ((IntKind.u64.wrap (t118)) * (IntKind.u64.wrap (t118)))) ≤ a0) = true := decide_eq_true c13
          clear c13
          by_cases c14 : (IntKind.u64.wrap (t118)) = 4294967295
          · rw [if_pos c14] at H
            have c14b0 : ((IntKind.u64.wrap (t118)) == 4294967295) = true := beq_iff_eq.mpr c14
            have c14b1 : ((IntKind.u64.wrap (t118)) != 4294967295) = false := bne_eq_false_iff_eq.mpr c14
            clear c14
            obtain rfl := Option.some.inj H
            go_enter Try.func4, Try.ntmps4
            go_wp2_with (first | ((with_reducible refine gate_callee (f := 12) rfl ?_); refine goesL_ (some 8) rfl rfl Try.func12 (by kernel_rfl) rfl #[] rfl (by (try simp only [List.map_toArray, List.map_cons, List.map_nil]); first | done | rfl | (simp only [List.length_drop, List.length_take]; rfl)) ?_; (with_reducible refine (pinnacelaw04_awake.calls k  true _ A4.out).mono ?_); rintro e w15 ⟨rfl, hb⟩; refine ⟨_, rfl, ?_⟩; have n0_ := Aside0.mk (below_step (by repeat (first | (with_reducible first | exact HB.out | apply below_alloc | apply pw_below_drewN | apply below_drew1) | exact HB.out)) hb); clear HB; have HB := n0_; clear n0_; (try clear hb); (try clear hb2); (try clear hk); (try clear hi)) | (go_at_call 15; (with_reducible refine (fixed_Root.calls k a0 t114 _ A6.out).mono ?_); rintro e w' ⟨rfl, ⟨nd, rfl⟩⟩) | (go_at_call 16; (with_reducible refine (pinnaceref04_Root.calls k a0 t115 _ A7.out).mono ?_); rintro e w' ⟨rfl, ⟨nd, rfl⟩⟩) | (go_at_call 17; (with_reducible refine (fixed_Len.calls k a1 a2 t116 _ A9.out).mono ?_); rintro e w16 ⟨rfl, hb⟩; have n0_ := Aside0.mk (below_step (by repeat (first | (with_reducible first | exact HB.out | apply below_alloc | apply pw_below_drewN | apply below_drew1) | exact HB.out)) hb); clear HB; have HB := n0_; clear n0_; (try clear hb); (try clear hb2); (try clear hk); (try clear hi)) | (go_at_call 18; (with_reducible refine (pinnaceref04_Len.calls k a1 a2 t117 _ A10.out).mono ?_); rintro e w' ⟨rfl, ⟨nd, rfl⟩⟩) | ((with_reducible refine gate_callee (f := 15) rfl ?_); refine goesL_ (some 27) rfl rfl Try.func15 (by kernel_rfl) rfl #[.int .u64 a0] rfl (by (try simp only [List.map_toArray, List.map_cons, List.map_nil]); first | done | rfl | (simp only [List.length_drop, List.length_take]; rfl)) ?_; (with_reducible refine (fixed_Root.calls k a0 t118 _ A12.out).mono ?_); rintro e w' ⟨rfl, ⟨nd, rfl⟩⟩; refine ⟨_, rfl, ?_⟩))
            go_ret
            exact ⟨by first | rfl | (simp [errW_none, errW_some] <;> rfl) | (simp [*, errW_none, errW_some] <;> rfl), by repeat (first | (with_reducible first | exact HB.out | apply below_alloc | apply pw_below_drewN | apply below_drew1) | exact HB.out)⟩
          · rw [if_neg c14] at H
            have c14b0 : ((IntKind.u64.wrap (t118)) == 4294967295) = false := beq_eq_false_iff_ne.mpr c14
            have c14b1 : ((IntKind.u64.wrap (t118)) != 4294967295) = true := bne_iff_ne.mpr c14
            obtain rfl := Option.some.inj H
            go_enter Try.func4, Try.ntmps4
            go_wp2_with (first | ((with_reducible refine gate_callee (f := 12) rfl ?_); refine goesL_ (some 8) rfl rfl Try.func12 (by kernel_rfl) rfl #[] rfl (by (try simp only [List.map_toArray, List.map_cons, List.map_nil]); first | done | rfl | (simp only [List.length_drop, List.length_take]; rfl)) ?_; (with_reducible refine (pinnacelaw04_awake.calls k  true _ A4.out).mono ?_); rintro e w17 ⟨rfl, hb⟩; refine ⟨_, rfl, ?_⟩; have n0_ := Aside0.mk (below_step (by repeat (first | (with_reducible first | exact HB.out | apply below_alloc | apply pw_below_drewN | apply below_drew1) | exact HB.out)) hb); clear HB; have HB := n0_; clear n0_; (try clear hb); (try clear hb2); (try clear hk); (try clear hi)) | (go_at_call 15; (with_reducible refine (fixed_Root.calls k a0 t114 _ A6.out).mono ?_); rintro e w' ⟨rfl, ⟨nd, rfl⟩⟩) | (go_at_call 16; (with_reducible refine (pinnaceref04_Root.calls k a0 t115 _ A7.out).mono ?_); rintro e w' ⟨rfl, ⟨nd, rfl⟩⟩) | (go_at_call 17; (with_reducible refine (fixed_Len.calls k a1 a2 t116 _ A9.out).mono ?_); rintro e w18 ⟨rfl, hb⟩; have n0_ := Aside0.mk (below_step (by repeat (first | (with_reducible first | exact HB.out | apply below_alloc | apply pw_below_drewN | apply below_drew1) | exact HB.out)) hb); clear HB; have HB := n0_; clear n0_; (try clear hb); (try clear hb2); (try clear hk); (try clear hi)) | (go_at_call 18; (with_reducible refine (pinnaceref04_Len.calls k a1 a2 t117 _ A10.out).mono ?_); rintro e w' ⟨rfl, ⟨nd, rfl⟩⟩) | ((with_reducible refine gate_callee (f := 15) rfl ?_); refine goesL_ (some 27) rfl rfl Try.func15 (by kernel_rfl) rfl #[.int .u64 a0] rfl (by (try simp only [List.map_toArray, List.map_cons, List.map_nil]); first | done | rfl | (simp only [List.length_drop, List.length_take]; rfl)) ?_; (with_reducible refine (fixed_Root.calls k a0 t118 _ A12.out).mono ?_); rintro e w' ⟨rfl, ⟨nd, rfl⟩⟩; refine ⟨_, rfl, ?_⟩))
            go_ret
            exact ⟨by first | rfl | (simp [errW_none, errW_some] <;> rfl) | (simp [*, errW_none, errW_some] <;> rfl), by repeat (first | (with_reducible first | exact HB.out | apply below_alloc | apply pw_below_drewN | apply below_drew1) | exact HB.out)⟩
        · rw [if_neg c13] at H
          have c13b0 : decide ((IntKind.u64.wrap ((IntKind.u64.wrap (t118)) * (IntKind.u64.wrap (t118)))) ≤ a0) = false := decide_eq_false c13
          clear c13
          obtain rfl := Option.some.inj H
          go_enter Try.func4, Try.ntmps4
          go_wp2_with (first | ((with_reducible refine gate_callee (f := 12) rfl ?_); refine goesL_ (some 8) rfl rfl Try.func12 (by kernel_rfl) rfl #[] rfl (by (try simp only [List.map_toArray, List.map_cons, List.map_nil]); first | done | rfl | (simp only [List.length_drop, List.length_take]; rfl)) ?_; (with_reducible refine (pinnacelaw04_awake.calls k  true _ A4.out).mono ?_); rintro e w19 ⟨rfl, hb⟩; refine ⟨_, rfl, ?_⟩; have n0_ := Aside0.mk (below_step (by repeat (first | (with_reducible first | exact HB.out | apply below_alloc | apply pw_below_drewN | apply below_drew1) | exact HB.out)) hb); clear HB; have HB := n0_; clear n0_; (try clear hb); (try clear hb2); (try clear hk); (try clear hi)) | (go_at_call 15; (with_reducible refine (fixed_Root.calls k a0 t114 _ A6.out).mono ?_); rintro e w' ⟨rfl, ⟨nd, rfl⟩⟩) | (go_at_call 16; (with_reducible refine (pinnaceref04_Root.calls k a0 t115 _ A7.out).mono ?_); rintro e w' ⟨rfl, ⟨nd, rfl⟩⟩) | (go_at_call 17; (with_reducible refine (fixed_Len.calls k a1 a2 t116 _ A9.out).mono ?_); rintro e w20 ⟨rfl, hb⟩; have n0_ := Aside0.mk (below_step (by repeat (first | (with_reducible first | exact HB.out | apply below_alloc | apply pw_below_drewN | apply below_drew1) | exact HB.out)) hb); clear HB; have HB := n0_; clear n0_; (try clear hb); (try clear hb2); (try clear hk); (try clear hi)) | (go_at_call 18; (with_reducible refine (pinnaceref04_Len.calls k a1 a2 t117 _ A10.out).mono ?_); rintro e w' ⟨rfl, ⟨nd, rfl⟩⟩) | ((with_reducible refine gate_callee (f := 15) rfl ?_); refine goesL_ (some 27) rfl rfl Try.func15 (by kernel_rfl) rfl #[.int .u64 a0] rfl (by (try simp only [List.map_toArray, List.map_cons, List.map_nil]); first | done | rfl | (simp only [List.length_drop, List.length_take]; rfl)) ?_; (with_reducible refine (fixed_Root.calls k a0 t118 _ A12.out).mono ?_); rintro e w' ⟨rfl, ⟨nd, rfl⟩⟩; refine ⟨_, rfl, ?_⟩))
          go_ret
          exact ⟨by first | rfl | (simp [errW_none, errW_some] <;> rfl) | (simp [*, errW_none, errW_some] <;> rfl), by repeat (first | (with_reducible first | exact HB.out | apply below_alloc | apply pw_below_drewN | apply below_drew1) | exact HB.out)⟩
      · rw [if_neg c11] at H
        have c11b0 : (t116 == t117) = false := beq_eq_false_iff_ne.mpr c11
        have c11b1 : (t116 != t117) = true := bne_iff_ne.mpr c11
        obtain rfl := Option.some.inj H
        go_enter Try.func4, Try.ntmps4
        go_wp2_with (first | ((with_reducible refine gate_callee (f := 12) rfl ?_); refine goesL_ (some 8) rfl rfl Try.func12 (by kernel_rfl) rfl #[] rfl (by (try simp only [List.map_toArray, List.map_cons, List.map_nil]); first | done | rfl | (simp only [List.length_drop, List.length_take]; rfl)) ?_; (with_reducible refine (pinnacelaw04_awake.calls k  true _ A4.out).mono ?_); rintro e w21 ⟨rfl, hb⟩; refine ⟨_, rfl, ?_⟩; have n0_ := Aside0.mk (below_step (by repeat (first | (with_reducible first | exact HB.out | apply below_alloc | apply pw_below_drewN | apply below_drew1) | exact HB.out)) hb); clear HB; have HB := n0_; clear n0_; (try clear hb); (try clear hb2); (try clear hk); (try clear hi)) | (go_at_call 15; (with_reducible refine (fixed_Root.calls k a0 t114 _ A6.out).mono ?_); rintro e w' ⟨rfl, ⟨nd, rfl⟩⟩) | (go_at_call 16; (with_reducible refine (pinnaceref04_Root.calls k a0 t115 _ A7.out).mono ?_); rintro e w' ⟨rfl, ⟨nd, rfl⟩⟩) | (go_at_call 17; (with_reducible refine (fixed_Len.calls k a1 a2 t116 _ A9.out).mono ?_); rintro e w22 ⟨rfl, hb⟩; have n0_ := Aside0.mk (below_step (by repeat (first | (with_reducible first | exact HB.out | apply below_alloc | apply pw_below_drewN | apply below_drew1) | exact HB.out)) hb); clear HB; have HB := n0_; clear n0_; (try clear hb); (try clear hb2); (try clear hk); (try clear hi)) | (go_at_call 18; (with_reducible refine (pinnaceref04_Len.calls k a1 a2 t117 _ A10.out).mono ?_); rintro e w' ⟨rfl, ⟨nd, rfl⟩⟩))
        go_ret
        exact ⟨by first | rfl | (simp [errW_none, errW_some] <;> rfl) | (simp [*, errW_none, errW_some] <;> rfl), by repeat (first | (with_reducible first | exact HB.out | apply below_alloc | apply pw_below_drewN | apply below_drew1) | exact HB.out)⟩
    · rw [if_neg c8] at H
      have c8b0 : (t114 == t115) = false := beq_eq_false_iff_ne.mpr c8
      have c8b1 : (t114 != t115) = true := bne_iff_ne.mpr c8
      obtain rfl := Option.some.inj H
      go_enter Try.func4, Try.ntmps4
      go_wp2_with (first | ((with_reducible refine gate_callee (f := 12) rfl ?_); refine goesL_ (some 8) rfl rfl Try.func12 (by kernel_rfl) rfl #[] rfl (by (try simp only [List.map_toArray, List.map_cons, List.map_nil]); first | done | rfl | (simp only [List.length_drop, List.length_take]; rfl)) ?_; (with_reducible refine (pinnacelaw04_awake.calls k  true _ A4.out).mono ?_); rintro e w23 ⟨rfl, hb⟩; refine ⟨_, rfl, ?_⟩; have n0_ := Aside0.mk (below_step (by repeat (first | (with_reducible first | exact HB.out | apply below_alloc | apply pw_below_drewN | apply below_drew1) | exact HB.out)) hb); clear HB; have HB := n0_; clear n0_; (try clear hb); (try clear hb2); (try clear hk); (try clear hi)) | (go_at_call 15; (with_reducible refine (fixed_Root.calls k a0 t114 _ A6.out).mono ?_); rintro e w' ⟨rfl, ⟨nd, rfl⟩⟩) | (go_at_call 16; (with_reducible refine (pinnaceref04_Root.calls k a0 t115 _ A7.out).mono ?_); rintro e w' ⟨rfl, ⟨nd, rfl⟩⟩))
      go_ret
      exact ⟨by first | rfl | (simp [errW_none, errW_some] <;> rfl) | (simp [*, errW_none, errW_some] <;> rfl), by repeat (first | (with_reducible first | exact HB.out | apply below_alloc | apply pw_below_drewN | apply below_drew1) | exact HB.out)⟩
  · replace c5 := Bool.eq_false_iff.mpr c5
    subst c5
    have H1 : (some false) = some r := by rw [if_neg (show ¬ (false = true) by decide)] at H; exact H
    clear H
    have H := H1
    clear H1
    obtain rfl := Option.some.inj H
    go_enter Try.func4, Try.ntmps4
    go_wp2_with (first | ((with_reducible refine gate_callee (f := 12) rfl ?_); refine goesL_ (some 8) rfl rfl Try.func12 (by kernel_rfl) rfl #[] rfl (by (try simp only [List.map_toArray, List.map_cons, List.map_nil]); first | done | rfl | (simp only [List.length_drop, List.length_take]; rfl)) ?_; (with_reducible refine (pinnacelaw04_awake.calls k  false _ A4.out).mono ?_); rintro e w24 ⟨rfl, hb⟩; refine ⟨_, rfl, ?_⟩; have n0_ := Aside0.mk (below_step (by repeat (first | (with_reducible first | exact HB.out | apply below_alloc | apply pw_below_drewN | apply below_drew1) | exact HB.out)) hb); clear HB; have HB := n0_; clear n0_; (try clear hb); (try clear hb2); (try clear hk); (try clear hi)))
    go_ret
    exact ⟨by first | rfl | (simp [errW_none, errW_some] <;> rfl) | (simp [*, errW_none, errW_some] <;> rfl), by repeat (first | (with_reducible first | exact HB.out | apply below_alloc | apply pw_below_drewN | apply below_drew1) | exact HB.out)⟩

/-- THE ONE PURE STATEMENT of pinnacelaw04_FixedRoots: yours. -/
def pinnacelaw04_FixedRoots.Pure : Prop := ∀ (a0 : Int) (a1 : Int) (a2 : Int), (Lit.int .u64 a0).wf = true → (Lit.int .i32 a1).wf = true → (Lit.int .i32 a2).wf = true → ∃ k, pinnacelaw04_FixedRoots.f k a0 a1 a2 = some true
theorem pinnacelaw04_FixedRoots.walk (P : pinnacelaw04_FixedRoots.Pure) (a0 : Int) (a1 : Int) (a2 : Int) (w : World) (w0 : (Lit.int .u64 a0).wf = true) (w1 : (Lit.int .i32 a1).wf = true) (w2 : (Lit.int .i32 a2).wf = true) :
    Calls Try.prog 4 #[.int .u64 a0, .int .i32 a1, .int .i32 a2] w fun e w' => e = .returned (.bool true) ∧ Below w.heap.size w w' := by
  obtain ⟨k, h⟩ := P a0 a1 a2 w0 w1 w2
  refine (pinnacelaw04_FixedRoots.calls k a0 a1 a2 true w h).mono ?_
  rintro e w' ⟨rfl, hd⟩
  exact ⟨rfl, hd⟩

end Go.Proofs.Ytijbhfclebijgaa.PFixedRoots
