/- Contracts of the slots' object: use (function 27), Take (15), Live (20), Free (16), Len (18), Room (17). -/
import Derived.Test.YtehfbnpibimmiaaLie
namespace Go.Proofs.Ytehfbnpibimmiaa.Use
open Go.RowKit Go.Proofs.YtehfbnpibimmiaaW.PrintWords Go.Proofs.YtehfbnpibimmiaaW.PrintLast Go.Proofs.YtehfbnpibimmiaaW.PrintMore Go.Proofs.Ytehfbnpibimmiaa.Lie

def _root_.Go.Proofs.Ytehfbnpibimmiaa.Lie.M.use (m : M) (slot : Nat) (g : Int) : M := { m with gen := m.gen.set slot g, used := m.used.set slot true, count := m.count + 1 }
theorem nums_set (l : List Int) (i : Nat) (x : Int) : (nums .i64 l).toArray.setIfInBounds i (.int .i64 x) = (nums .i64 (l.set i x)).toArray := by simp [nums, List.map_set]
theorem bools_set (l : List Bool) (i : Nat) (x : Bool) : (bools l).toArray.setIfInBounds i (.bool x) = (bools (l.set i x)).toArray := by simp [bools, List.map_set]

/-- A cell of the struct is stored. -/
theorem heap_set (w : World) (b o : Nat) (v : Value) {cs : Array Value} {t : TypeId} {fr : Nat × Nat} (h : w.heap[b]? = some (.cells cs t fr)) : (w.setCell ⟨b, o, none⟩ v).heap[b]? = some (.cells (cs.setIfInBounds o v) t fr) := by
  show (w.heap.modify b _)[b]? = _
  rw [Array.getElem?_modify, if_pos rfl, h]
  simp
theorem own_set {w : World} {B sb gb ub : Nat} {fv : Value} {m : M} (h : Lies w B sb gb ub fv m) (b o : Nat) (v : Value) (hb : fv.ownBlock ≠ some b) : (w.setCell ⟨b, o, none⟩ v).ownsRow B 3 1 fv m.free.length (nums .i64 m.free) :=
  own_kept h.free fun g hg => Below.heap_setCell _ _ _ _ (fun e => hb (by rw [hg, e]))
theorem set_gen {w : World} {B sb gb ub : Nat} {fv : Value} {m : M} (h : Lies w B sb gb ub fv m) (i : Nat) (x : Int) : Lies (w.setCell ⟨gb, i, none⟩ (.int .i64 x)) B sb gb ub fv { m with gen := m.gen.set i x } := by
  obtain ⟨a1, a2, a3, a4, a5⟩ := lies_apart h
  refine ⟨?_, ?_, ?_, own_set h gb i _ h.apart, h.apart, h.lb⟩
  · rw [Below.heap_setCell _ _ _ _ a1, h.obj]; simp
  · rw [heap_set _ _ _ _ h.gen, nums_set]; rfl
  · rw [Below.heap_setCell _ _ _ _ (Ne.symm a3), h.used]
theorem set_used {w : World} {B sb gb ub : Nat} {fv : Value} {m : M} (h : Lies w B sb gb ub fv m) (i : Nat) (x : Bool) : Lies (w.setCell ⟨ub, i, none⟩ (.bool x)) B sb gb ub fv { m with used := m.used.set i x } := by
  obtain ⟨a1, a2, a3, a4, a5⟩ := lies_apart h
  refine ⟨?_, ?_, ?_, own_set h ub i _ a5, h.apart, h.lb⟩
  · rw [Below.heap_setCell _ _ _ _ a2, h.obj]
  · rw [Below.heap_setCell _ _ _ _ a3, h.gen]
  · rw [heap_set _ _ _ _ h.used, bools_set]; rfl
theorem set_count {w : World} {B sb gb ub : Nat} {fv : Value} {m : M} (h : Lies w B sb gb ub fv m) (x : Int) : Lies (w.setCell ⟨sb, 5, none⟩ (.int .i64 x)) B sb gb ub fv { m with count := x } := by
  obtain ⟨a1, a2, a3, a4, a5⟩ := lies_apart h
  refine ⟨?_, ?_, ?_, own_set h sb 5 _ a4, h.apart, h.lb⟩
  · rw [heap_set _ _ _ _ h.obj]; simp [sObj]
  · rw [Below.heap_setCell _ _ _ _ (Ne.symm a1), h.gen]
  · rw [Below.heap_setCell _ _ _ _ (Ne.symm a2), h.used]
theorem set_fresh {w : World} {B sb gb ub : Nat} {fv : Value} {m : M} (h : Lies w B sb gb ub fv m) (x : Int) : Lies (w.setCell ⟨sb, 4, none⟩ (.int .i64 x)) B sb gb ub fv { m with fresh := x } := by
  obtain ⟨a1, a2, a3, a4, a5⟩ := lies_apart h
  refine ⟨?_, ?_, ?_, own_set h sb 4 _ a4, h.apart, h.lb⟩
  · rw [heap_set _ _ _ _ h.obj]; simp [sObj]
  · rw [Below.heap_setCell _ _ _ _ (Ne.symm a1), h.gen]
  · rw [Below.heap_setCell _ _ _ _ (Ne.symm a2), h.used]
/-- The freed slots' slice is stored anew: what it holds is owned already. -/
theorem set_free {w : World} {B sb gb ub : Nat} {fv fv' : Value} {m : M} {free' : List Int} (h : Lies w B sb gb ub fv m) (ho : w.ownsRow B 3 1 fv' free'.length (nums .i64 free')) (ha : fv'.ownBlock ≠ some gb) : Lies (w.setCell ⟨sb, 3, none⟩ fv') B sb gb ub fv' { m with free := free' } := by
  obtain ⟨a1, a2, a3, a4, a5⟩ := lies_apart h
  have hsb : fv'.ownBlock ≠ some sb := fun e => by
    obtain ⟨cs, hc⟩ := own_typed ho sb e
    have := h.obj
    rw [hc] at this; simp [sObj] at this
  refine ⟨?_, ?_, ?_, own_kept ho fun g hg => Below.heap_setCell _ _ _ _ (fun e => hsb (by rw [hg, e])), ha, h.lb⟩
  · rw [heap_set _ _ _ _ h.obj]; simp [sObj]
  · rw [Below.heap_setCell _ _ _ _ (Ne.symm a1), h.gen]
  · rw [Below.heap_setCell _ _ _ _ (Ne.symm a2), h.used]
theorem used_done {w : World} {B sb gb ub : Nat} {fv : Value} {m : M} (h : Lies w B sb gb ub fv m) (slot : Nat) (g : Int) (k : Nat) (_ : slot < m.gen.length) (_ : slot < m.used.length) :
    Lies ((((w.setCell ⟨gb, slot, none⟩ (.int .i64 g)).setCell ⟨ub, slot, none⟩ (.bool true)).setCell ⟨sb, 5, none⟩ (.int .i64 (m.count + 1))).drewN k) B sb gb ub fv (m.use slot g) ∧
      Turns (Own sb gb ub fv) w ((((w.setCell ⟨gb, slot, none⟩ (.int .i64 g)).setCell ⟨ub, slot, none⟩ (.bool true)).setCell ⟨sb, 5, none⟩ (.int .i64 (m.count + 1))).drewN k) :=
  ⟨lies_drew (set_count (set_used (set_gen h slot g) slot true) (m.count + 1)) k,
    ((((Turns.refl _ w).set (.inl (.inr (.inl rfl))) _).set (.inl (.inr (.inr (.inl rfl)))) _).set (.inl (.inl rfl)) _).drew k⟩

set_option maxHeartbeats 4000000 in
set_option maxRecDepth 100000 in
theorem use_calls {w : World} {B sb gb ub : Nat} {fv : Value} {m : M} (h : Lies w B sb gb ub fv m) (slot : Nat) (g : Int) (hs : slot < m.gen.length) (hu : slot < m.used.length) (hn : m.gen.length ≤ 1024) (g1 : 1 ≤ g) (g2 : g ≤ 4194303) (hc0 : -1000 ≤ m.count) (hc1 : m.count ≤ 100000) :
    Calls Try.prog 27 #[.pointer (some ⟨sb, 0, none⟩), .int .i64 slot, .int .i64 g] w fun e w' => e = .returned (.tuple #[.int .u32 (g * 1024 + slot), .int .i64 0]) ∧ Lies w' B sb gb ub fv (m.use slot g) ∧ Turns (Own sb gb ub fv) w w' := by
  obtain ⟨c0, c1, c2, c3, c4, c5⟩ := cells_of h
  have f5 := (free_of h 5).1
  have fg := (free_of h slot).2.1
  have fu := (free_of h slot).2.2
  have eg := gen_at h slot hs
  have eu := used_at h slot hu
  obtain ⟨a1, a2, a3, a4, a5⟩ := lies_apart h
  have s0 : (0 : Int) ≤ (slot : Int) := by omega
  have s1 : (slot : Int) < (m.gen.length : Int) := by omega
  have HX := Aside0.mk h
  have b1 : gb ≠ sb := Ne.symm a1
  have b2 : ub ≠ sb := Ne.symm a2
  have b3 : ub ≠ gb := Ne.symm a3
  clear h a4 a5 c0 c3 c4
  go_enter Try.func27, Try.ntmps27
  go_wp2
  go_region
  go_wp2_with (go_at_call 7; (with_reducible refine (make_ok _ _ _ s0 (by omega) g1 g2).mono ?_); rintro e w' ⟨rfl, ⟨nd, rfl⟩⟩)
  go_ret2
  exact ⟨rfl, used_done HX.out slot g _ hs hu⟩
end Go.Proofs.Ytehfbnpibimmiaa.Use
