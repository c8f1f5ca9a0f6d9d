/- Contracts of a mailbox's Put and Take (functions 9 and 13), in one goroutine: with room, full, nil; with something, empty, nil. The box (block b) holds a channel (block c) of capacity n, in whose buffer the numbers l lie, the eldest first. -/
import Derived.Test.YtpbncindcmjoeaaProg
import Derived.Test.YtpbncindcmjoeaaWWords
import Derived.Conc.LoneSelect
import Derived.KernelRfl
import Derived.Laws.Rows
namespace Go.Proofs.Ytpbncindcmjoeaa.Comm
open Go.Conc Go.RowKit Go.Proofs.YtpbncindcmjoeaaW.PrintWords

/-- The block of a channel whose buffer holds l. -/
def chanOf (n : Nat) (l : List Int) (s r : Nat) : Obj := .chan n (nums .i64 l).toArray false s r false
/-- A box in block b whose channel is block c. -/
def boxObj (c : Nat) : Obj := .cells #[.chan (some c)] 54 (0, 0)
structure Box (w : World) (b c n : Nat) (l : List Int) : Prop where
  box : w.heap[b]? = some (boxObj c)
  chan : ∃ s r, w.heap[c]? = some (chanOf n l s r)

theorem grown_chan (w : World) (c n : Nat) (buf : Array Value) (s r : Nat) : w.grownBy (w.setChan c n buf false s r false) (some c) :=
  ⟨rfl, rfl, rfl, by simp [World.setChan], fun k _ hk => by simp only [World.setChan]; rw [Array.getElem?_setIfInBounds_ne (fun e => hk (by rw [e]))]⟩
theorem box_kept {w w' : World} {b c : Nat} {l : List Int} {n : Nat} (h : Box w b c n l) (hg : w.grownBy w' (some c)) {l' : List Int} {s r : Nat} (hc : w'.heap[c]? = some (chanOf n l' s r)) : Box w' b c n l' := by
  have hb : b < w.heap.size := (Array.getElem?_eq_some_iff.1 h.box).1
  have hne : b ≠ c := by
    intro e
    obtain ⟨s0, r0, hcc⟩ := h.chan
    have := h.box
    rw [e, hcc] at this
    simp [chanOf, boxObj] at this
  exact ⟨by rw [hg.block b hb (by simpa using hne)]; exact h.box, s, r, hc⟩
theorem nums_push (l : List Int) (v : Int) : (nums .i64 l).toArray.push (.int .i64 v) = (nums .i64 (l ++ [v])).toArray := by simp [nums]
theorem nums_tail (v : Int) (l : List Int) : (nums .i64 (v :: l)).toArray.extract 1 (nums .i64 (v :: l)).toArray.size = (nums .i64 l).toArray := by
  simp only [nums, List.map_cons, List.size_toArray, List.length_cons, List.length_map, List.extract_toArray, List.extract_eq_take_drop, List.drop_succ_cons, List.drop_zero, Nat.add_sub_cancel]
  rw [List.take_of_length_le (by simp)]

set_option maxRecDepth 100000 in
theorem put_nil (v : Int) (w : World) : Calls Try.prog 9 #[.pointer none, .int .i64 v] w fun e w' => e = .returned (.int .i64 10) ∧ w' = w := by
  refine calls_of_loneTo fun cs => ?_
  have e : Frame.enter Try.prog 9 #[.pointer none, .int .i64 v] .normal = (base 9).at ⟨#[.pointer none, .int .i64 v, undef, undef, undef, undef, undef, undef, undef, undef, undef, undef, undef, undef, undef], []⟩ [.code (Try.f9.body.getD .skip)] := by
    simp [Frame.enter, Frame.at, Try.func9, base, Try.f9]
    try rfl
  rw [e]
  refine LoneTo.goes (n := 16) ?_
  simp only [Try.f9, Option.getD_some]
  s_c stepG_seq
  s_reg
  s_op
  s_c stepG_region_end
  s_c stepG_seq
  s_c stepG_seq
  s_reg
  s_op
  s_op
  s_c stepG_region_end
  s_cond true
  s_c stepG_seq
  s_reg
  s_op
  s_c stepG_region_end
  s_c stepG_ret'
  s_stop
  exact LoneTo.done ⟨.returned (.int .i64 10), _, rfl, ⟨rfl, rfl⟩, rfl, rfl, rfl, rfl, _, Try.func9, by simp [results, Try.f9, Frame.at]⟩

set_option maxRecDepth 100000 in
theorem put_room (b c n : Nat) (l : List Int) (v : Int) (w : World) (s r : Nat) (hb : w.heap[b]? = some (boxObj c)) (hc : w.heap[c]? = some (chanOf n l s r)) (hr : l.length < n) :
    Calls Try.prog 9 #[.pointer (some ⟨b, 0, none⟩), .int .i64 v] w fun e w' => e = .returned (.int .i64 0) ∧ w' = w.setChan c n (nums .i64 (l ++ [v])).toArray false (s + 1) r false := by
  have hbc : w.cell? ⟨b, 0, none⟩ = some (.chan (some c)) := by simp [World.cell?, hb, boxObj]
  refine calls_of_loneTo fun cs => ?_
  have e : Frame.enter Try.prog 9 #[.pointer (some ⟨b, 0, none⟩), .int .i64 v] .normal = (base 9).at ⟨#[.pointer (some ⟨b, 0, none⟩), .int .i64 v, undef, undef, undef, undef, undef, undef, undef, undef, undef, undef, undef, undef, undef], []⟩ [.code (Try.f9.body.getD .skip)] := by
    simp [Frame.enter, Frame.at, Try.func9, base, Try.f9]
    try rfl
  rw [e]
  refine LoneTo.goes (n := 40) ?_
  simp only [Try.f9, Option.getD_some]
  s_c stepG_seq
  s_reg
  s_op
  s_c stepG_region_end
  s_c stepG_seq
  s_c stepG_seq
  s_reg
  s_op
  s_op
  s_c stepG_region_end
  s_cond false
  s_c stepG_skip
  s_c stepG_seq
  s_c stepG_seq
  s_reg
  s_op
  s_op
  s_op
  s_op
  s_c stepG_region_end
  s_reg
  s_op
  s_c stepG_region_end
  s_c stepG_seq
  s_reg
  s_stop
  refine LoneTo.step (step_lone_select_send_room (c := c) (cap := n) (buf := (nums .i64 l).toArray) (s := s) (r := r) (tm := false) (stepG_comm (cases := #[scase c (.int .i64 v) (.int .i64 0)]) (blocking := false) (shape := .select) (w' := w) rfl rfl (by decide) (by simp [go_sem, execOp, scase, Act.eval])) hc (by simpa [nums] using hr)) ?_
  rw [Frame.finish_at, nums_push]
  walk_nrm
  refine LoneTo.goes (n := 20) ?_
  s_op
  s_op
  s_c stepG_region_end
  s_c stepG_block
  s_cond true
  s_c stepG_seq
  s_reg
  s_op
  s_c stepG_region_end
  s_c stepG_ret'
  s_stop
  exact LoneTo.done ⟨.returned (.int .i64 0), _, rfl, ⟨rfl, rfl⟩, rfl, rfl, rfl, rfl, _, Try.func9, by simp [results, Try.f9, Frame.at]⟩

set_option maxRecDepth 100000 in
theorem put_full (b c n : Nat) (l : List Int) (v : Int) (w : World) (s r : Nat) (hb : w.heap[b]? = some (boxObj c)) (hc : w.heap[c]? = some (chanOf n l s r)) (hr : n ≤ l.length) :
    Calls Try.prog 9 #[.pointer (some ⟨b, 0, none⟩), .int .i64 v] w fun e w' => e = .returned (.int .i64 8) ∧ w' = w := by
  have hbc : w.cell? ⟨b, 0, none⟩ = some (.chan (some c)) := by simp [World.cell?, hb, boxObj]
  refine calls_of_loneTo fun cs => ?_
  have e : Frame.enter Try.prog 9 #[.pointer (some ⟨b, 0, none⟩), .int .i64 v] .normal = (base 9).at ⟨#[.pointer (some ⟨b, 0, none⟩), .int .i64 v, undef, undef, undef, undef, undef, undef, undef, undef, undef, undef, undef, undef, undef], []⟩ [.code (Try.f9.body.getD .skip)] := by
    simp [Frame.enter, Frame.at, Try.func9, base, Try.f9]
    try rfl
  rw [e]
  refine LoneTo.goes (n := 40) ?_
  simp only [Try.f9, Option.getD_some]
  s_c stepG_seq
  s_reg
  s_op
  s_c stepG_region_end
  s_c stepG_seq
  s_c stepG_seq
  s_reg
  s_op
  s_op
  s_c stepG_region_end
  s_cond false
  s_c stepG_skip
  s_c stepG_seq
  s_c stepG_seq
  s_reg
  s_op
  s_op
  s_op
  s_op
  s_c stepG_region_end
  s_reg
  s_op
  s_c stepG_region_end
  s_c stepG_seq
  s_reg
  s_stop
  refine LoneTo.step (step_lone_select_send_full (c := c) (cap := n) (buf := (nums .i64 l).toArray) (s := s) (r := r) (tm := false) (stepG_comm (cases := #[scase c (.int .i64 v) (.int .i64 0)]) (blocking := false) (shape := .select) (w' := w) rfl rfl (by decide) (by simp [go_sem, execOp, scase, Act.eval])) hc (by simpa [nums] using hr)) ?_
  rw [Frame.finish_at]
  walk_nrm
  refine LoneTo.goes (n := 20) ?_
  s_op
  s_op
  s_c stepG_region_end
  s_c stepG_block
  s_cond false
  s_c stepG_seq
  s_reg
  s_op
  s_c stepG_region_end
  s_c stepG_ret'
  s_stop
  exact LoneTo.done ⟨.returned (.int .i64 8), _, rfl, ⟨rfl, rfl⟩, rfl, rfl, rfl, rfl, _, Try.func9, by simp [results, Try.f9, Frame.at]⟩

set_option maxRecDepth 100000 in
theorem take_nil (w : World) : Calls Try.prog 13 #[.pointer none] w fun e w' => e = .returned (.tuple #[.int .i64 0, .bool false]) ∧ w' = w := by
  refine calls_of_loneTo fun cs => ?_
  have e : Frame.enter Try.prog 13 #[.pointer none] .normal = (base 13).at ⟨#[.pointer none, undef, undef, undef, undef, undef, undef, undef, undef, undef, undef, undef, undef, undef, undef, undef, undef, undef, undef], []⟩ [.code (Try.f13.body.getD .skip)] := by
    simp [Frame.enter, Frame.at, Try.func13, base, Try.f13]
    try rfl
  rw [e]
  refine LoneTo.goes (n := 40) ?_
  simp only [Try.f13, Option.getD_some]
  s_c stepG_seq
  s_reg
  s_op
  s_op
  s_c stepG_region_end
  s_c stepG_seq
  s_reg
  s_op
  s_c stepG_region_end
  s_c stepG_seq
  s_c stepG_seq
  s_reg
  s_op
  s_op
  s_c stepG_region_end
  s_cond true
  s_c stepG_seq
  s_reg
  s_op
  s_op
  s_op
  s_c stepG_region_end
  s_c stepG_ret'
  s_stop
  exact LoneTo.done ⟨.returned (.tuple #[.int .i64 0, .bool false]), _, rfl, ⟨rfl, rfl⟩, rfl, rfl, rfl, rfl, _, Try.func13, by simp [results, Try.f13, Frame.at]⟩

set_option maxRecDepth 100000 in
theorem take_some (b c n : Nat) (v : Int) (l : List Int) (w : World) (s r : Nat) (hb : w.heap[b]? = some (boxObj c)) (hc : w.heap[c]? = some (chanOf n (v :: l) s r)) :
    Calls Try.prog 13 #[.pointer (some ⟨b, 0, none⟩)] w fun e w' => e = .returned (.tuple #[.int .i64 v, .bool true]) ∧ w' = w.setChan c n (nums .i64 l).toArray false s (r + 1) false := by
  have hbc : w.cell? ⟨b, 0, none⟩ = some (.chan (some c)) := by simp [World.cell?, hb, boxObj]
  refine calls_of_loneTo fun cs => ?_
  have e : Frame.enter Try.prog 13 #[.pointer (some ⟨b, 0, none⟩)] .normal = (base 13).at ⟨#[.pointer (some ⟨b, 0, none⟩), undef, undef, undef, undef, undef, undef, undef, undef, undef, undef, undef, undef, undef, undef, undef, undef, undef, undef], []⟩ [.code (Try.f13.body.getD .skip)] := by
    simp [Frame.enter, Frame.at, Try.func13, base, Try.f13]
    try rfl
  rw [e]
  refine LoneTo.goes (n := 40) ?_
  simp only [Try.f13, Option.getD_some]
  s_c stepG_seq
  s_reg
  s_op
  s_op
  s_c stepG_region_end
  s_c stepG_seq
  s_reg
  s_op
  s_c stepG_region_end
  s_c stepG_seq
  s_c stepG_seq
  s_reg
  s_op
  s_op
  s_c stepG_region_end
  s_cond false
  s_c stepG_skip
  s_c stepG_seq
  s_reg
  s_op
  s_op
  s_op
  s_op
  s_c stepG_region_end
  s_c stepG_seq
  s_reg
  s_stop
  refine LoneTo.step (step_lone_select_recv_buf (c := c) (z := .int .i64 0) (stepG_comm (cases := #[rcase c (.int .i64 0)]) (blocking := false) (shape := .select) (w' := w) rfl rfl (by decide) (by simp [go_sem, execOp, rcase, Act.eval])) hc (by simp [nums])) ?_
  rw [Frame.finish_at, nums_tail]
  have hv : (nums .i64 (v :: l)).toArray.getD 0 undef = .int .i64 v := by simp [nums]
  rw [hv]
  walk_nrm
  refine LoneTo.goes (n := 30) ?_
  s_op
  s_op
  s_c stepG_region_end
  s_c stepG_block
  s_cond true
  s_c stepG_seq
  s_reg
  s_op
  s_op
  s_c stepG_region_end
  s_c stepG_seq
  s_reg
  s_op
  s_op
  s_op
  s_c stepG_region_end
  s_c stepG_ret'
  s_stop
  exact LoneTo.done ⟨.returned (.tuple #[.int .i64 v, .bool true]), _, rfl, ⟨rfl, rfl⟩, rfl, rfl, rfl, rfl, _, Try.func13, by simp [results, Try.f13, Frame.at]⟩

set_option maxRecDepth 100000 in
theorem take_none (b c n : Nat) (w : World) (s r : Nat) (hb : w.heap[b]? = some (boxObj c)) (hc : w.heap[c]? = some (chanOf n [] s r)) :
    Calls Try.prog 13 #[.pointer (some ⟨b, 0, none⟩)] w fun e w' => e = .returned (.tuple #[.int .i64 0, .bool false]) ∧ w' = w := by
  have hbc : w.cell? ⟨b, 0, none⟩ = some (.chan (some c)) := by simp [World.cell?, hb, boxObj]
  refine calls_of_loneTo fun cs => ?_
  have e : Frame.enter Try.prog 13 #[.pointer (some ⟨b, 0, none⟩)] .normal = (base 13).at ⟨#[.pointer (some ⟨b, 0, none⟩), undef, undef, undef, undef, undef, undef, undef, undef, undef, undef, undef, undef, undef, undef, undef, undef, undef, undef], []⟩ [.code (Try.f13.body.getD .skip)] := by
    simp [Frame.enter, Frame.at, Try.func13, base, Try.f13]
    try rfl
  rw [e]
  refine LoneTo.goes (n := 40) ?_
  simp only [Try.f13, Option.getD_some]
  s_c stepG_seq
  s_reg
  s_op
  s_op
  s_c stepG_region_end
  s_c stepG_seq
  s_reg
  s_op
  s_c stepG_region_end
  s_c stepG_seq
  s_c stepG_seq
  s_reg
  s_op
  s_op
  s_c stepG_region_end
  s_cond false
  s_c stepG_skip
  s_c stepG_seq
  s_reg
  s_op
  s_op
  s_op
  s_op
  s_c stepG_region_end
  s_c stepG_seq
  s_reg
  s_stop
  refine LoneTo.step (step_lone_select_default (c := c) (z := .int .i64 0) (stepG_comm (cases := #[rcase c (.int .i64 0)]) (blocking := false) (shape := .select) (w' := w) rfl rfl (by decide) (by simp [go_sem, execOp, rcase, Act.eval])) hc) ?_
  rw [Frame.finish_at]
  walk_nrm
  refine LoneTo.goes (n := 30) ?_
  s_op
  s_op
  s_c stepG_region_end
  s_c stepG_block
  s_cond false
  s_c stepG_seq
  s_reg
  s_op
  s_op
  s_op
  s_c stepG_region_end
  s_c stepG_ret'
  s_stop
  exact LoneTo.done ⟨.returned (.tuple #[.int .i64 0, .bool false]), _, rfl, ⟨rfl, rfl⟩, rfl, rfl, rfl, rfl, _, Try.func13, by simp [results, Try.f13, Frame.at]⟩

end Go.Proofs.Ytpbncindcmjoeaa.Comm
