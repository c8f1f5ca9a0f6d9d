/- SlotsIDs (function 3) answers true: every slot and generation has its ID, and every ID its slot and generation. No conditions. -/
import Derived.Test.YtehfbnpibimmiaaAwake
namespace Go.Proofs.Ytehfbnpibimmiaa.IDs
open Go.RowKit Go.Proofs.YtehfbnpibimmiaaW.PrintWords Go.Proofs.YtehfbnpibimmiaaW.PrintLast Go.Proofs.YtehfbnpibimmiaaW.PrintMore Go.Proofs.Ytehfbnpibimmiaa.Lie Go.Proofs.Ytehfbnpibimmiaa.Awake

theorem make_bad (slot gen : Int) (w : World) (h : slot < 0 ∨ 1024 ≤ slot ∨ gen < 1 ∨ 4194303 < gen) :
    Calls Try.prog 7 #[.int .i64 slot, .int .i64 gen] w fun e w' => e = .returned (.tuple #[.int .u32 0, .int .i64 1]) ∧ Drawn0 w w' := by
  refine PSlotsPlays.slots_Make.calls slot gen _ _ w ?_
  unfold PSlotsPlays.slots_Make.f
  by_cases h1 : slot < 0
  · rw [if_pos h1]
  · by_cases h2 : slot ≥ 1024
    · rw [if_neg h1, if_pos h2]
    · by_cases h3 : gen < 1
      · rw [if_neg h1, if_neg h2, if_pos h3]
      · rw [if_neg h1, if_neg h2, if_neg h3, if_pos (by omega)]
theorem ref_make_bad (slot gen : Int) (w : World) (h : slot < 0 ∨ 1024 ≤ slot ∨ gen < 1 ∨ 4194303 < gen) :
    Calls Try.prog 8 #[.int .i64 slot, .int .i64 gen] w fun e w' => e = .returned (.tuple #[.int .u32 0, .int .i64 1]) ∧ Drawn0 w w' := by
  refine PSlotsPlays.pinnaceref07_Make.calls slot gen _ _ w ?_
  unfold PSlotsPlays.pinnaceref07_Make.f
  by_cases h1 : slot < 0
  · rw [if_pos h1]
  · by_cases h2 : slot > 1023
    · rw [if_neg h1, if_pos h2]
    · by_cases h3 : gen < 1
      · rw [if_neg h1, if_neg h2, if_pos h3]
      · rw [if_neg h1, if_neg h2, if_neg h3, if_pos (by omega)]
theorem ref_make_ok (slot gen : Int) (w : World) (h0 : 0 ≤ slot) (h1 : slot < 1024) (h2 : 1 ≤ gen) (h3 : gen ≤ 4194303) :
    Calls Try.prog 8 #[.int .i64 slot, .int .i64 gen] w fun e w' => e = .returned (.tuple #[.int .u32 (gen * 1024 + slot), .int .i64 0]) ∧ Drawn0 w w' := by
  refine PSlotsPlays.pinnaceref07_Make.calls slot gen _ _ w ?_
  unfold PSlotsPlays.pinnaceref07_Make.f
  rw [if_neg (by omega), if_neg (by omega), if_neg (by omega), if_neg (by omega)]
  have e : (gen % 4294967296 * 1024 % 4294967296 + slot % 4294967296) % 4294967296 = gen * 1024 + slot := by omega
  rw [e]
theorem ref_slot_of (id : Int) (w : World) (h0 : 0 ≤ id) (h1 : id < 4294967296) :
    Calls Try.prog 11 #[.int .u32 id] w fun e w' => e = .returned (.int .i64 (id % 1024)) ∧ Drawn0 w w' := by
  refine PSlotsPlays.pinnaceref07_Slot.calls id _ w ?_
  unfold PSlotsPlays.pinnaceref07_Slot.f
  have e : wrap64 id = id := by unfold wrap64; omega
  rw [e, Int.tmod_eq_emod_of_nonneg h0]
theorem ref_gen_of (id : Int) (w : World) (h0 : 0 ≤ id) (h1 : id < 4294967296) :
    Calls Try.prog 13 #[.int .u32 id] w fun e w' => e = .returned (.int .i64 (id / 1024)) ∧ Drawn0 w w' := by
  refine PSlotsPlays.pinnaceref07_Gen.calls id _ w ?_
  unfold PSlotsPlays.pinnaceref07_Gen.f
  have e : wrap64 id = id := by unfold wrap64; omega
  rw [e, Int.tdiv_eq_ediv_of_nonneg h0]
  have e2 : wrap64 (id / 1024) = id / 1024 := by unfold wrap64; omega
  rw [e2]

theorem slot_x (slot gen : Int) (w : World) (h0 : 0 ≤ slot) (h1 : slot < 1024) (h2 : 1 ≤ gen) : Calls Try.prog 10 #[.int .u32 (gen * 1024 + slot)] w fun e w' => e = .returned (.int .i64 slot) ∧ Drawn0 w w' := by
  have := slot_of (gen * 1024 + slot) w (by omega)
  rwa [show (gen * 1024 + slot) % 1024 = slot by omega] at this
theorem gen_x (slot gen : Int) (w : World) (h0 : 0 ≤ slot) (h1 : slot < 1024) (h2 : 1 ≤ gen) (h3 : gen ≤ 4194303) : Calls Try.prog 12 #[.int .u32 (gen * 1024 + slot)] w fun e w' => e = .returned (.int .i64 gen) ∧ Drawn0 w w' := by
  have := gen_of (gen * 1024 + slot) w (by omega) (by omega)
  rwa [show (gen * 1024 + slot) / 1024 = gen by omega] at this
set_option maxHeartbeats 4000000 in
set_option maxRecDepth 100000 in
theorem ids_calls (slot gen id : Int) (w : World) (i0 : 0 ≤ id) (i1 : id < 4294967296) :
    Calls Try.prog 3 #[.int .i64 slot, .int .i64 gen, .int .u32 id] w fun e w' => e = .returned (.bool true) ∧ Below w.heap.size w w' := by
  have HQ := Aside0.mk (Below.refl w.heap.size w)
  by_cases h : slot < 0 ∨ 1024 ≤ slot ∨ gen < 1 ∨ 4194303 < gen
  · have HM := Aside0.mk (fun w => make_bad slot gen w h)
    have HR := Aside0.mk (fun w => ref_make_bad slot gen w h)
    clear h
    go_enter Try.func3, Try.ntmps3
    go_wp2_with (first
      | (go_at_call 7; (with_reducible refine (HM.out _).mono ?_); rintro e w' ⟨rfl, ⟨n1, rfl⟩⟩)
      | (go_at_call 8; (with_reducible refine (HR.out _).mono ?_); rintro e w' ⟨rfl, ⟨n2, rfl⟩⟩)
      | (go_at_call 9; (with_reducible refine (awake_calls _).mono ?_); rintro e wa ⟨rfl, hB⟩; have HB := Aside0.mk hB; clear hB)
      | (go_at_call 10; (with_reducible refine (slot_of id _ i0).mono ?_); rintro e w' ⟨rfl, ⟨n3, rfl⟩⟩)
      | (go_at_call 11; (with_reducible refine (ref_slot_of id _ i0 i1).mono ?_); rintro e w' ⟨rfl, ⟨n4, rfl⟩⟩)
      | (go_at_call 12; (with_reducible refine (gen_of id _ i0 i1).mono ?_); rintro e w' ⟨rfl, ⟨n5, rfl⟩⟩)
      | (go_at_call 13; (with_reducible refine (ref_gen_of id _ i0 i1).mono ?_); rintro e w' ⟨rfl, ⟨n6, rfl⟩⟩))
    go_ret
    exact ⟨rfl, pw_below_drewN ((pw_below_drewN HQ.out _).trans HB.out) _⟩
  · have h1 : 0 ≤ slot := by omega
    have h2 : slot < 1024 := by omega
    have h3 : 1 ≤ gen := by omega
    have h4 : gen ≤ 4194303 := by omega
    clear h
    go_enter Try.func3, Try.ntmps3
    go_wp2_with (first
      | (go_at_call 7; (with_reducible refine (make_ok slot gen _ h1 h2 h3 h4).mono ?_); rintro e w' ⟨rfl, ⟨n1, rfl⟩⟩)
      | (go_at_call 8; (with_reducible refine (ref_make_ok slot gen _ h1 h2 h3 h4).mono ?_); rintro e w' ⟨rfl, ⟨n2, rfl⟩⟩)
      | (go_at_call 9; (with_reducible refine (awake_calls _).mono ?_); rintro e wa ⟨rfl, hB⟩; have HB := Aside0.mk hB; clear hB)
      | (go_at_call 10; (with_reducible refine (slot_of id _ i0).mono ?_); rintro e w' ⟨rfl, ⟨n3, rfl⟩⟩)
      | (go_at_call 10; (with_reducible refine (slot_x slot gen _ h1 h2 h3).mono ?_); rintro e w' ⟨rfl, ⟨n3, rfl⟩⟩)
      | (go_at_call 11; (with_reducible refine (ref_slot_of id _ i0 i1).mono ?_); rintro e w' ⟨rfl, ⟨n4, rfl⟩⟩)
      | (go_at_call 12; (with_reducible refine (gen_of id _ i0 i1).mono ?_); rintro e w' ⟨rfl, ⟨n5, rfl⟩⟩)
      | (go_at_call 12; (with_reducible refine (gen_x slot gen _ h1 h2 h3 h4).mono ?_); rintro e w' ⟨rfl, ⟨n5, rfl⟩⟩)
      | (go_at_call 13; (with_reducible refine (ref_gen_of id _ i0 i1).mono ?_); rintro e w' ⟨rfl, ⟨n6, rfl⟩⟩))
    go_ret
    exact ⟨rfl, pw_below_drewN ((pw_below_drewN HQ.out _).trans HB.out) _⟩
end Go.Proofs.Ytehfbnpibimmiaa.IDs
