/- How the slots' object lies in memory: a struct of six cells, a row of generations, a row of marks, the freed slots' row. Plain laws; the contracts of New (function 14), and of Make, Slot and Gen (7, 10, 12) in the form in which they are used. -/
import Derived.Test.YtehfbnpibimmiaaPSlotsPlaysx1
import Derived.WalkKit
import Derived.BigQuiet
import Derived.Deep.QuietTactic
import Derived.RegionTactic
import Derived.BigRegion
import Derived.StillTailTactics
import Derived.Deep.RegionHeld3
import Derived.Deep.AppendLies
namespace Go.Proofs.Ytehfbnpibimmiaa.Lie
open Go.RowKit Go.Proofs.YtehfbnpibimmiaaW.PrintWords Go.Proofs.YtehfbnpibimmiaaW.PrintLast Go.Proofs.YtehfbnpibimmiaaW.PrintMore

/-- The object as plain data. -/
structure M where
  first : Int
  gen : List Int
  used : List Bool
  free : List Int
  fresh : Int
  count : Int
def sObj (first : Int) (gb ub n : Nat) (fv : Value) (fresh count : Int) : Obj :=
  .cells #[.int .i64 first, .slice (some ⟨gb, 0, none⟩) n n, .slice (some ⟨ub, 0, none⟩) n n, fv, .int .i64 fresh, .int .i64 count] 59 (0, 0)
def gObj (gen : List Int) : Obj := .cells (nums .i64 gen).toArray 3 (0, 0)
def uObj (used : List Bool) : Obj := .cells (bools used).toArray 4 (0, 0)
/-- It lies: its blocks are from B on. -/
structure Lies (w : World) (B sb gb ub : Nat) (fv : Value) (m : M) : Prop where
  obj : w.heap[sb]? = some (sObj m.first gb ub m.gen.length fv m.fresh m.count)
  gen : w.heap[gb]? = some (gObj m.gen)
  used : w.heap[ub]? = some (uObj m.used)
  free : w.ownsRow B 3 1 fv m.free.length (nums .i64 m.free)
  apart : fv.ownBlock ≠ some gb
  lb : B ≤ sb ∧ B ≤ gb ∧ B ≤ ub
/-- The blocks that are its own. -/
def Own (sb gb ub : Nat) (fv : Value) (k : Nat) : Prop := k = sb ∨ k = gb ∨ k = ub ∨ fv.ownBlock = some k
/-- Nothing but the blocks of S has turned. -/
structure Turns (S : Nat → Prop) (w w' : World) : Prop where
  os : w'.os = w.os
  tape : w'.tape = w.tape
  output : w'.output = w.output
  size : w.heap.size ≤ w'.heap.size
  block : ∀ k, k < w.heap.size → ¬ S k → w'.heap[k]? = w.heap[k]?
section
variable {w w1 w2 W : World} {S T : Nat → Prop} {B sb gb ub : Nat} {fv fv' : Value} {m : M}
theorem Turns.refl (S : Nat → Prop) (w : World) : Turns S w w := ⟨rfl, rfl, rfl, Nat.le_refl _, fun _ _ _ => rfl⟩
theorem Turns.trans (h : Turns S w w1) (k : Turns T w1 w2) (hT : ∀ i, i < w.heap.size → T i → S i) : Turns S w w2 :=
  ⟨k.os.trans h.os, k.tape.trans h.tape, k.output.trans h.output, Nat.le_trans h.size k.size, fun i hi hS => (k.block i (Nat.lt_of_lt_of_le hi h.size) (fun ht => hS (hT i hi ht))).trans (h.block i hi hS)⟩
theorem Turns.of_below (h : Below w.heap.size w w1) : Turns S w w1 := ⟨h.os, h.tape, h.output, h.size, fun k hk _ => h.block k hk⟩
theorem Turns.drew (h : Turns S w w1) (n : Nat) : Turns S w (w1.drewN n) := ⟨h.os, h.tape, h.output, h.size, h.block⟩
theorem Turns.set (h : Turns S w w1) {a : Addr} (ha : S a.block ∨ w.heap.size ≤ a.block) (u : Value) : Turns S w (w1.setCell a u) :=
  ⟨h.os, h.tape, h.output, by simpa [World.setCell] using h.size, fun k hk hS => by
    rw [Below.heap_setCell _ _ _ _ (fun e => by
      subst e
      rcases ha with ha | ha
      · exact hS ha
      · omega)]
    exact h.block k hk hS⟩
theorem Turns.below {w0 : World} (h : Below w0.heap.size w0 w) (k : Turns S w w1) (hS : ∀ i, S i → w0.heap.size ≤ i) : Below w0.heap.size w0 w1 :=
  ⟨k.os.trans h.os, k.tape.trans h.tape, k.output.trans h.output, Nat.le_trans h.size k.size, fun i hi => (k.block i (Nat.lt_of_lt_of_le hi h.size) (fun hs => by have := hS i hs; omega)).trans (h.block i hi)⟩

theorem lies_lt (h : Lies w B sb gb ub fv m) : sb < w.heap.size ∧ gb < w.heap.size ∧ ub < w.heap.size :=
  ⟨(Array.getElem?_eq_some_iff.1 h.obj).1, (Array.getElem?_eq_some_iff.1 h.gen).1, (Array.getElem?_eq_some_iff.1 h.used).1⟩
theorem own_cell {v : Value} {xs : List Value} {n e g : Nat} (h : w.ownsRow B e 1 v n xs) (hg : v.ownBlock = some g) : ∃ cs, w.heap[g]? = some (.cells cs e (0, 0)) := own_typed h g hg
theorem lies_apart (h : Lies w B sb gb ub fv m) : sb ≠ gb ∧ sb ≠ ub ∧ gb ≠ ub ∧ fv.ownBlock ≠ some sb ∧ fv.ownBlock ≠ some ub := by
  have h1 := h.obj
  have h2 := h.gen
  have h3 := h.used
  refine ⟨?_, ?_, ?_, ?_, ?_⟩
  · intro e; rw [e, h2] at h1; simp [gObj, sObj] at h1
  · intro e; rw [e, h3] at h1; simp [uObj, sObj] at h1
  · intro e; rw [e, h3] at h2; simp [uObj, gObj] at h2
  · intro e
    obtain ⟨cs, hc⟩ := own_typed h.free sb e
    rw [hc] at h1; simp [sObj] at h1
  · intro e
    obtain ⟨cs, hc⟩ := own_typed h.free ub e
    rw [hc] at h3; simp [uObj] at h3
theorem own_from (h : Lies w B sb gb ub fv m) {k : Nat} (hk : Own sb gb ub fv k) : B ≤ k := by
  rcases hk with rfl | rfl | rfl | hk
  · exact h.lb.1
  · exact h.lb.2.1
  · exact h.lb.2.2
  · exact own_base h.free k hk
theorem own_isLt (h : Lies w B sb gb ub fv m) {k : Nat} (hk : Own sb gb ub fv k) : k < w.heap.size := by
  rcases hk with rfl | rfl | rfl | hk
  · exact (lies_lt h).1
  · exact (lies_lt h).2.1
  · exact (lies_lt h).2.2
  · exact own_lt h.free k hk
theorem own_kept {v : Value} {xs : List Value} {n e s : Nat} (h : w.ownsRow B e s v n xs) (hk : ∀ g, v.ownBlock = some g → w1.heap[g]? = w.heap[g]?) : w1.ownsRow B e s v n xs := by
  refine ⟨h.1, ?_⟩
  rcases h.2 with h2 | ⟨g, cap, cur, rfl, hb, hh, hr⟩
  · exact .inl h2
  · exact .inr ⟨g, cap, cur, rfl, hb, by rw [hk g rfl]; exact hh, hr⟩
/-- It lives on where its blocks are not turned. -/
theorem lies_turns (h : Lies w B sb gb ub fv m) (hf : Turns S w w1) (hS : ∀ k, Own sb gb ub fv k → ¬ S k) : Lies w1 B sb gb ub fv m := by
  have l := lies_lt h
  refine { h with obj := by rw [hf.block _ l.1 (hS _ (.inl rfl))]; exact h.obj, gen := by rw [hf.block _ l.2.1 (hS _ (.inr (.inl rfl)))]; exact h.gen, used := by rw [hf.block _ l.2.2 (hS _ (.inr (.inr (.inl rfl))))]; exact h.used, free := ?_ }
  exact own_kept h.free fun g hg => hf.block g (own_lt h.free g hg) (hS g (.inr (.inr (.inr hg))))
theorem lies_below (h : Lies w B sb gb ub fv m) (hb : Below w.heap.size w w1) : Lies w1 B sb gb ub fv m :=
  lies_turns h (S := fun _ => False) (Turns.of_below hb) (fun _ _ => id)
theorem lies_drew (h : Lies w B sb gb ub fv m) (n : Nat) : Lies (w.drewN n) B sb gb ub fv m := ⟨h.obj, h.gen, h.used, h.free, h.apart, h.lb⟩

/-- The cells of the struct. -/
theorem cells_of (h : Lies w B sb gb ub fv m) :
    w.cell? ⟨sb, 0, none⟩ = some (.int .i64 m.first) ∧ w.cell? ⟨sb, 1, none⟩ = some (.slice (some ⟨gb, 0, none⟩) m.gen.length m.gen.length) ∧ w.cell? ⟨sb, 2, none⟩ = some (.slice (some ⟨ub, 0, none⟩) m.gen.length m.gen.length) ∧
      w.cell? ⟨sb, 3, none⟩ = some fv ∧ w.cell? ⟨sb, 4, none⟩ = some (.int .i64 m.fresh) ∧ w.cell? ⟨sb, 5, none⟩ = some (.int .i64 m.count) := by
  refine ⟨?_, ?_, ?_, ?_, ?_, ?_⟩ <;> simp [World.cell?, h.obj, sObj]
theorem free_of (h : Lies w B sb gb ub fv m) (o : Nat) : w.frozen? ⟨sb, o, none⟩ = false ∧ w.frozen? ⟨gb, o, none⟩ = false ∧ w.frozen? ⟨ub, o, none⟩ = false := by
  refine ⟨?_, ?_, ?_⟩ <;> simp [World.frozen?, h.obj, h.gen, h.used, sObj, gObj, uObj]
theorem gen_at (h : Lies w B sb gb ub fv m) (i : Nat) (hi : i < m.gen.length) : w.cell? ⟨gb, i, none⟩ = some (.int .i64 (m.gen.getD i 0)) := by
  simp [World.cell?, h.gen, gObj, nums, hi, List.getD_eq_getElem?_getD]
theorem used_at (h : Lies w B sb gb ub fv m) (i : Nat) (hi : i < m.used.length) : w.cell? ⟨ub, i, none⟩ = some (.bool (m.used.getD i false)) := by
  simp [World.cell?, h.used, uObj, bools, hi, List.getD_eq_getElem?_getD]
end

/-! ### Make, Slot, Gen -/
theorem make_ok (slot gen : Int) (w : World) (h0 : 0 ≤ slot) (h1 : slot < 1024) (h2 : 1 ≤ gen) (h3 : gen ≤ 4194303) :
    Calls Try.prog 7 #[.int .i64 slot, .int .i64 gen] w fun e w' => e = .returned (.tuple #[.int .u32 (gen * 1024 + slot), .int .i64 0]) ∧ Drawn0 w w' := by
  refine PSlotsPlays.slots_Make.calls slot gen _ _ w ?_
  unfold PSlotsPlays.slots_Make.f
  rw [if_neg (by omega), if_neg (by omega), if_neg (by omega), if_neg (by omega)]
  have e : wrap64 (wrap64 (gen * 1024) + slot) % 4294967296 = gen * 1024 + slot := by unfold wrap64; omega
  rw [e]
theorem slot_of (id : Int) (w : World) (h0 : 0 ≤ id) :
    Calls Try.prog 10 #[.int .u32 id] w fun e w' => e = .returned (.int .i64 (id % 1024)) ∧ Drawn0 w w' := by
  refine PSlotsPlays.slots_Slot.calls id _ w ?_
  unfold PSlotsPlays.slots_Slot.f
  have e : wrap64 (Int.tmod id 1024) = id % 1024 := by rw [Int.tmod_eq_emod_of_nonneg h0]; unfold wrap64; omega
  rw [e]
theorem gen_of (id : Int) (w : World) (h0 : 0 ≤ id) (h1 : id < 4294967296) :
    Calls Try.prog 12 #[.int .u32 id] w fun e w' => e = .returned (.int .i64 (id / 1024)) ∧ Drawn0 w w' := by
  refine PSlotsPlays.slots_Gen.calls id _ w ?_
  unfold PSlotsPlays.slots_Gen.f
  have e : Int.tdiv id 1024 % 4294967296 = id / 1024 := by rw [Int.tdiv_eq_ediv_of_nonneg h0]; omega
  rw [e]

/-! ### New -/
theorem info3 : (Try.prog.info? 3).map (fun i => (i.zero, i.size, i.bytes)) = some (some (.int .i64 0), 1, 8) := by kernel_rfl
theorem info4 : (Try.prog.info? 4).map (fun i => (i.zero, i.size, i.bytes)) = some (some (.bool false), 1, 1) := by kernel_rfl
theorem new_bad (n first : Int) (w : World) (h : n < 1 ∨ 1024 < n ∨ first < 1 ∨ 4194303 < first) :
    Calls Try.prog 14 #[.int .i64 n, .int .i64 first] w fun e w' => e = .returned (.tuple #[.pointer none, .int .i64 1]) ∧ w = w' := by
  by_cases h1 : n < 1
  · have d1 : decide (n < 1) = true := decide_eq_true h1
    go_enter Try.func14, Try.ntmps14
    go_wp2
    go_ret2
    exact ⟨rfl, rfl⟩
  have d1 : decide (n < 1) = false := decide_eq_false h1
  by_cases h2 : 1024 < n
  · have d2 : decide (1024 < n) = true := decide_eq_true h2
    go_enter Try.func14, Try.ntmps14
    go_wp2
    go_ret2
    exact ⟨rfl, rfl⟩
  have d2 : decide (1024 < n) = false := decide_eq_false h2
  by_cases h3 : first < 1
  · have d3 : decide (first < 1) = true := decide_eq_true h3
    go_enter Try.func14, Try.ntmps14
    go_wp2
    go_ret2
    exact ⟨rfl, rfl⟩
  have d3 : decide (first < 1) = false := decide_eq_false h3
  have d4 : decide (4194303 < first) = true := decide_eq_true (by omega)
  go_enter Try.func14, Try.ntmps14
  go_wp2
  go_ret2
  exact ⟨rfl, rfl⟩
/-- A new object. -/
def M.new (n : Nat) (first : Int) : M := ⟨first, List.replicate n 0, List.replicate n false, [], 0, 0⟩
def Newed (n : Nat) (first : Int) (w : World) (e : Ending) (w' : World) : Prop :=
  ∃ sb gb ub, e = .returned (.tuple #[.pointer (some ⟨sb, 0, none⟩), .int .i64 0]) ∧ Lies w' w.heap.size sb gb ub (.slice none 0 0) (M.new n first) ∧ Below w.heap.size w w'
theorem made_nums (n : Nat) : madeCells #[Value.int .i64 0] n = (nums .i64 (List.replicate n 0)).toArray := by
  apply Array.ext
  · simp [nums, madeCells]
  · intro i h1 h2
    simp [nums, madeCells, Nat.mod_one]
theorem made_bools (n : Nat) : madeCells #[Value.bool false] n = (bools (List.replicate n false)).toArray := by
  apply Array.ext
  · simp [bools, madeCells]
  · intro i h1 h2
    simp [bools, madeCells, Nat.mod_one]
theorem below3 (w : World) (a b c : Obj) : Below w.heap.size w (((w.alloc a).alloc b).alloc c).drew :=
  Below.drew ((((Below.refl _ w).alloc (Nat.le_refl _) _).alloc (by simp) _).alloc (by simp; omega) _)
theorem at0 (w : World) (a b c : Obj) : (((w.alloc a).alloc b).alloc c).drew.heap[w.heap.size]? = some a := by
  show (((w.alloc a).alloc b).alloc c).heap[w.heap.size]? = some a
  rw [Below.heap_alloc _ _ _ (by simp; omega), Below.heap_alloc _ _ _ (by simp)]; exact heap_alloc_new w a
theorem at1 (w : World) (a b c : Obj) : (((w.alloc a).alloc b).alloc c).drew.heap[w.heap.size + 1]? = some b := by
  show (((w.alloc a).alloc b).alloc c).heap[w.heap.size + 1]? = some b
  rw [Below.heap_alloc _ _ _ (by simp)]
  simpa using heap_alloc_new (w.alloc a) b
theorem at2 (w : World) (a b c : Obj) : (((w.alloc a).alloc b).alloc c).drew.heap[w.heap.size + 1 + 1]? = some c := by
  show (((w.alloc a).alloc b).alloc c).heap[w.heap.size + 1 + 1]? = some c
  simpa using heap_alloc_new ((w.alloc a).alloc b) c
theorem newed_gu (n : Nat) (first : Int) (w : World) : Newed n first w (.returned (.tuple #[.pointer (some ⟨w.heap.size + 1 + 1, 0, none⟩), .int .i64 0]))
    (((w.alloc (.cells (madeCells #[.int .i64 0] n) 3)).alloc (.cells (madeCells #[.bool false] n) 4)).alloc (.cells #[.int .i64 first, .slice (some ⟨w.heap.size, 0, none⟩) n n, .slice (some ⟨w.heap.size + 1, 0, none⟩) n n, .slice none 0 0, .int .i64 0, .int .i64 0] 59)).drew := by
  refine ⟨_, w.heap.size, w.heap.size + 1, rfl, ⟨?_, ?_, ?_, own_nil _ _ _ _, by simp [Value.ownBlock], by omega⟩, below3 _ _ _ _⟩
  · rw [at2]; simp [sObj, M.new]
  · rw [at0, made_nums]; rfl
  · rw [at1, made_bools]; rfl
theorem newed_ug (n : Nat) (first : Int) (w : World) : Newed n first w (.returned (.tuple #[.pointer (some ⟨w.heap.size + 1 + 1, 0, none⟩), .int .i64 0]))
    (((w.alloc (.cells (madeCells #[.bool false] n) 4)).alloc (.cells (madeCells #[.int .i64 0] n) 3)).alloc (.cells #[.int .i64 first, .slice (some ⟨w.heap.size + 1, 0, none⟩) n n, .slice (some ⟨w.heap.size, 0, none⟩) n n, .slice none 0 0, .int .i64 0, .int .i64 0] 59)).drew := by
  refine ⟨_, w.heap.size + 1, w.heap.size, rfl, ⟨?_, ?_, ?_, own_nil _ _ _ _, by simp [Value.ownBlock], by omega⟩, below3 _ _ _ _⟩
  · rw [at2]; simp [sObj, M.new]
  · rw [at1, made_nums]; rfl
  · rw [at0, made_bools]; rfl
set_option maxHeartbeats 1000000 in
theorem new_good (n : Nat) (first : Int) (w : World) (h1 : 1 ≤ n) (h2 : n ≤ 1024) (h3 : 1 ≤ first) (h4 : first ≤ 4194303) :
    Calls Try.prog 14 #[.int .i64 n, .int .i64 first] w (Newed n first w) := by
  have d1 : decide ((n : Int) < 1) = false := decide_eq_false (by omega)
  have d2 : decide (1024 < (n : Int)) = false := decide_eq_false (by omega)
  have d3 : decide (first < 1) = false := decide_eq_false (by omega)
  have d4 : decide (4194303 < first) = false := decide_eq_false (by omega)
  have hg := print_make (P := Try.prog) 45 3 .i64 8 Try.underlying45 info3 (by decide) n (by omega)
  have hu : ∀ W : World, (Instr.makeSlice 57 (.int .i64 (n : Int)) (.int .i64 (n : Int))).run Try.prog W = .ok (.slice (some ⟨W.heap.size, 0, none⟩) n n) (W.alloc (.cells (madeCells #[.bool false] n) 4)) :=
    fun W => run_make_row' 57 4 (.bool false) 1 Try.underlying57 info4 rfl .i64 .i64 n (by omega) (by omega) W
  go_enter Try.func14, Try.ntmps14
  go_wp2
  go_region
  all_goals go_wp2
  all_goals go_ret2
  · exact newed_gu n first w
  · exact newed_ug n first w
end Go.Proofs.Ytehfbnpibimmiaa.Lie
