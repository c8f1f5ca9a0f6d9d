/- Contracts of the reference's New (function 21) and Free (23). -/
import Derived.Test.YtehfbnpibimmiaaRef
namespace Go.Proofs.Ytehfbnpibimmiaa.Refs
open Go.RowKit Go.Proofs.YtehfbnpibimmiaaW.PrintWords Go.Proofs.YtehfbnpibimmiaaW.PrintLast Go.Proofs.YtehfbnpibimmiaaW.PrintMore Go.Proofs.Ytehfbnpibimmiaa.Lie Go.Proofs.Ytehfbnpibimmiaa.Use Go.Proofs.Ytehfbnpibimmiaa.Take Go.Proofs.Ytehfbnpibimmiaa.Live Go.Proofs.Ytehfbnpibimmiaa.Free Go.Proofs.Ytehfbnpibimmiaa.Awake Go.Proofs.Ytehfbnpibimmiaa.List Go.Proofs.Ytehfbnpibimmiaa.Inv Go.Proofs.Ytehfbnpibimmiaa.Ref

/-! ### New -/
theorem info65 : (Try.prog.info? 65).map (fun i => (i.zero, i.size, i.bytes)) = some (some (.agg #[.int .i64 0, .bool false, .int .i64 0]), 3, 24) := by kernel_rfl
theorem rnew_bad (n first : Int) (w : World) (h : n < 1 ∨ 1024 < n ∨ first < 1 ∨ 4194303 < first) :
    Calls Try.prog 21 #[.int .i64 n, .int .i64 first] w fun e w' => e = .returned (.tuple #[.pointer none, .int .i64 1]) ∧ w = w' := by
  by_cases h1 : n < 1
  · have d1 : decide (n < 1) = true := decide_eq_true h1
    go_enter Try.func21, Try.ntmps21
    go_wp2
    go_ret2
    exact ⟨rfl, rfl⟩
  have d1 : decide (n < 1) = false := decide_eq_false h1
  by_cases h2 : 1024 < n
  · have d2 : decide (1024 < n) = true := decide_eq_true h2
    go_enter Try.func21, Try.ntmps21
    go_wp2
    go_ret2
    exact ⟨rfl, rfl⟩
  have d2 : decide (1024 < n) = false := decide_eq_false h2
  by_cases h3 : first < 1
  · have d3 : decide (first < 1) = true := decide_eq_true h3
    go_enter Try.func21, Try.ntmps21
    go_wp2
    go_ret2
    exact ⟨rfl, rfl⟩
  have d3 : decide (first < 1) = false := decide_eq_false h3
  have d4 : decide (4194303 < first) = true := decide_eq_true (by omega)
  go_enter Try.func21, Try.ntmps21
  go_wp2
  go_ret2
  exact ⟨rfl, rfl⟩
theorem made_three (n k j : Nat) (hk : k < n) (hj : j < 3) : (madeCells #[Value.int .i64 0, .bool false, .int .i64 0] (n * 3))[k * 3 + j]? = some (#[Value.int .i64 0, .bool false, .int .i64 0][j]!) := by
  have h : k * 3 + j < n * 3 := by omega
  have e : (k * 3 + j) % 3 = j := by omega
  rw [Array.getElem?_eq_getElem (by simpa [madeCells] using h)]
  simp [madeCells, e]
theorem rnewed (n : Nat) (first : Int) (w : World) : RLies ((w.alloc (.cells (madeCells #[.int .i64 0, .bool false, .int .i64 0] (n * 3)) 65)).alloc (rObj first w.heap.size n 0)) w.heap.size (w.heap.size + 1) w.heap.size first n (fun _ => 0) (fun _ => false) (fun _ => 0) 0 ∧
    Below w.heap.size w ((w.alloc (.cells (madeCells #[.int .i64 0, .bool false, .int .i64 0] (n * 3)) 65)).alloc (rObj first w.heap.size n 0)) := by
  refine ⟨⟨?_, ⟨madeCells #[.int .i64 0, .bool false, .int .i64 0] (n * 3), ?_, size_madeCells _ _, ?_⟩, by omega⟩, ((Below.refl _ w).alloc (Nat.le_refl _) _).alloc (by simp) _⟩
  · simpa using heap_alloc_new (w.alloc (.cells (madeCells #[.int .i64 0, .bool false, .int .i64 0] (n * 3)) 65)) (rObj first w.heap.size n 0)
  · rw [Below.heap_alloc _ _ _ (by simp)]; exact heap_alloc_new w _
  · intro k hk
    exact ⟨made_three n k 0 hk (by omega), made_three n k 1 hk (by omega), made_three n k 2 hk (by omega)⟩
set_option maxHeartbeats 1000000 in
theorem rnew_good (n : Nat) (first : Int) (w : World) (h1 : 1 ≤ n) (h2 : n ≤ 1024) (h3 : 1 ≤ first) (h4 : first ≤ 4194303) :
    Calls Try.prog 21 #[.int .i64 n, .int .i64 first] w fun e w' => ∃ rb lb, e = .returned (.tuple #[.pointer (some ⟨rb, 0, none⟩), .int .i64 0]) ∧ RLies w' w.heap.size rb lb first n (fun _ => 0) (fun _ => false) (fun _ => 0) 0 ∧ Below w.heap.size w w' := by
  have d1 : decide ((n : Int) < 1) = false := decide_eq_false (by omega)
  have d2 : decide (1024 < (n : Int)) = false := decide_eq_false (by omega)
  have d3 : decide (first < 1) = false := decide_eq_false (by omega)
  have d4 : decide (4194303 < first) = false := decide_eq_false (by omega)
  obtain ⟨i, hi, hz, hs, hb⟩ : ∃ i, Try.prog.info? 65 = some i ∧ i.zero = some (.agg #[.int .i64 0, .bool false, .int .i64 0]) ∧ i.size = 3 ∧ i.bytes = 24 := by
    obtain ⟨i, hi, hzz⟩ := Option.map_eq_some_iff.1 info65
    simp only [Prod.mk.injEq] at hzz
    exact ⟨i, hi, hzz.1, hzz.2.1, hzz.2.2⟩
  have hg : ∀ W : World, (Instr.makeSlice 61 (.int .i64 (n : Int)) (.int .i64 (n : Int))).run Try.prog W = .ok (.slice (some ⟨W.heap.size, 0, none⟩) n n) (W.alloc (.cells (madeCells #[.int .i64 0, .bool false, .int .i64 0] (n * 3)) 65)) := fun W => by
    have := run_makeSlice (P := Try.prog) W 61 65 i _ Try.underlying61 hi hz .i64 .i64 n n (by omega) (Int.le_refl _) (by rw [hs, Int.toNat_natCast]; omega) (by rw [hb]; omega) (by omega)
    rw [hs, Int.toNat_natCast] at this
    exact this
  clear hi hz hs hb
  go_enter Try.func21, Try.ntmps21
  go_wp2
  go_ret2
  refine ⟨w.heap.size + 1, w.heap.size, rfl, ?_⟩
  exact rnewed n first w

/-! ### Stores -/
section
variable {w : World} {B rb lb n : Nat} {first clock : Int} {G : Nat → Int} {U : Nat → Bool} {F : Nat → Int}
theorem r_setU (h : RLies w B rb lb first n G U F clock) (k : Nat) (hk : k < n) (x : Bool) : RLies (w.setCell ⟨lb, k * 3 + 1, none⟩ (.bool x)) B rb lb first n G (fun i => if i = k then x else U i) F clock := by
  have ha := r_apart h
  obtain ⟨cs, hc, hs, hr⟩ := h.row
  refine ⟨by rw [Below.heap_setCell _ _ _ _ ha]; exact h.obj, ⟨_, heap_set _ _ _ _ hc, by simpa using hs, fun i hi => ?_⟩, h.lb⟩
  obtain ⟨h1, h2, h3⟩ := hr i hi
  simp only [Array.getElem?_setIfInBounds]
  refine ⟨by rw [if_neg (by omega)]; exact h1, ?_, by rw [if_neg (by omega)]; exact h3⟩
  by_cases e : i = k
  · subst e; rw [if_pos rfl, if_pos (by omega), if_pos rfl]
  · rw [if_neg (by omega), if_neg e]; exact h2
theorem r_setF (h : RLies w B rb lb first n G U F clock) (k : Nat) (hk : k < n) (x : Int) : RLies (w.setCell ⟨lb, k * 3 + 2, none⟩ (.int .i64 x)) B rb lb first n G U (fun i => if i = k then x else F i) clock := by
  have ha := r_apart h
  obtain ⟨cs, hc, hs, hr⟩ := h.row
  refine ⟨by rw [Below.heap_setCell _ _ _ _ ha]; exact h.obj, ⟨_, heap_set _ _ _ _ hc, by simpa using hs, fun i hi => ?_⟩, h.lb⟩
  obtain ⟨h1, h2, h3⟩ := hr i hi
  simp only [Array.getElem?_setIfInBounds]
  refine ⟨by rw [if_neg (by omega)]; exact h1, by rw [if_neg (by omega)]; exact h2, ?_⟩
  by_cases e : i = k
  · subst e; rw [if_pos rfl, if_pos (by omega), if_pos rfl]
  · rw [if_neg (by omega), if_neg e]; exact h3
theorem r_setG (h : RLies w B rb lb first n G U F clock) (k : Nat) (hk : k < n) (x : Int) : RLies (w.setCell ⟨lb, k * 3, none⟩ (.int .i64 x)) B rb lb first n (fun i => if i = k then x else G i) U F clock := by
  have ha := r_apart h
  obtain ⟨cs, hc, hs, hr⟩ := h.row
  refine ⟨by rw [Below.heap_setCell _ _ _ _ ha]; exact h.obj, ⟨_, heap_set _ _ _ _ hc, by simpa using hs, fun i hi => ?_⟩, h.lb⟩
  obtain ⟨h1, h2, h3⟩ := hr i hi
  simp only [Array.getElem?_setIfInBounds]
  refine ⟨?_, by rw [if_neg (by omega)]; exact h2, by rw [if_neg (by omega)]; exact h3⟩
  by_cases e : i = k
  · subst e; rw [if_pos rfl, if_pos (by omega), if_pos rfl]
  · rw [if_neg (by omega), if_neg e]; exact h1
theorem r_setClock (h : RLies w B rb lb first n G U F clock) (x : Int) : RLies (w.setCell ⟨rb, 2, none⟩ (.int .i64 x)) B rb lb first n G U F x := by
  have ha := r_apart h
  obtain ⟨cs, hc, hs, hr⟩ := h.row
  refine ⟨by rw [heap_set _ _ _ _ h.obj]; simp [rObj], ⟨cs, by rw [Below.heap_setCell _ _ _ _ (Ne.symm ha)]; exact hc, hs, hr⟩, h.lb⟩
theorem r_drew (h : RLies w B rb lb first n G U F clock) (k : Nat) : RLies (w.drewN k) B rb lb first n G U F clock := ⟨h.obj, h.row, h.lb⟩
end
/-! ### Free -/
theorem rfree_nil (id : Int) (w : World) : Calls Try.prog 23 #[.pointer none, .int .u32 id] w fun e w' => e = .returned (.int .i64 10) ∧ w = w' := by
  go_enter Try.func23, Try.ntmps23
  go_wp2
  go_ret
  exact ⟨rfl, rfl⟩
theorem rlive_is (r : Bool) {w : World} {B rb lb n : Nat} {first clock : Int} {G : Nat → Int} {U : Nat → Bool} {F : Nat → Int} (h : RLies w B rb lb first n G U F clock) (hn : n ≤ 1024) (id : Int) (i0 : 0 ≤ id) (i1 : id < 4294967296) (hr : r = true ↔ isLive n G U id) :
    Calls Try.prog 24 #[.pointer (some ⟨rb, 0, none⟩), .int .u32 id] w fun e w' => e = .returned (.bool r) ∧ Below w.heap.size w w' := by
  refine (rlive_calls h hn id i0 i1).mono ?_
  rintro e w' ⟨r', rfl, hr', hb⟩
  refine ⟨?_, hb⟩
  have : r' = r := by
    rw [← hr] at hr'
    exact Bool.eq_iff_iff.2 hr'
  rw [this]
theorem rfree_dead {w : World} {B rb lb n : Nat} {first clock : Int} {G : Nat → Int} {U : Nat → Bool} {F : Nat → Int} (h : RLies w B rb lb first n G U F clock) (hn : n ≤ 1024) (id : Int) (i0 : 0 ≤ id) (i1 : id < 4294967296) (hr : ¬ isLive n G U id) :
    Calls Try.prog 23 #[.pointer (some ⟨rb, 0, none⟩), .int .u32 id] w fun e w' => e = .returned (.int .i64 7) ∧ Below w.heap.size w w' := by
  have HC := Aside0.mk (rlive_is false h hn id i0 i1 ⟨fun e => (by cases e), fun e => absurd e hr⟩)
  clear h hr
  go_enter Try.func23, Try.ntmps23
  go_wp2_with (go_at_call 24; (with_reducible refine HC.out.mono ?_); rintro e w' ⟨rfl, hb⟩; have HB := Aside0.mk hb; clear hb)
  go_ret
  exact ⟨rfl, HB.out⟩
set_option maxHeartbeats 4000000 in
set_option maxRecDepth 100000 in
theorem rfree_live {w : World} {B rb lb n : Nat} {first clock : Int} {G : Nat → Int} {U : Nat → Bool} {F : Nat → Int} (h : RLies w B rb lb first n G U F clock) (hn : n ≤ 1024) (id : Int) (i0 : 0 ≤ id) (i1 : id < 4294967296) (hr : isLive n G U id) (s : Nat) (hs : id % 1024 = s) (c0 : 0 ≤ clock) (c1 : clock ≤ 100000) (hg : id / 1024 < 4194303) :
    Calls Try.prog 23 #[.pointer (some ⟨rb, 0, none⟩), .int .u32 id] w fun e w' => e = .returned (.int .i64 0) ∧ RLies w' B rb lb first n G (fun i => if i = s then false else U i) (fun i => if i = s then clock + 1 else F i) (clock + 1) ∧ Turns (ROwn rb lb) w w' := by
  have HC := Aside0.mk (rlive_is true h hn id i0 i1 ⟨fun _ => hr, fun _ => rfl⟩)
  obtain ⟨r1, r2, r3⟩ := hr
  have hsn : s < n := by omega
  have hgs : G s = id / 1024 := by rw [← r3, hs]; rfl
  have HX := Aside0.mk h
  have HS := Aside0.mk (fun w => rslot_of id w i0 i1)
  rw [hs] at HS
  have hs0 : (0 : Int) ≤ (s : Int) := by omega
  have hs1 : (s : Int) < (n : Int) := by omega
  clear h hs r1 r2 r3
  go_enter Try.func23, Try.ntmps23
  go_wp2_with (first
    | (go_at_call 24; (with_reducible refine HC.out.mono ?_); rintro e w2 ⟨rfl, hb⟩; have HB := Aside0.mk hb; clear hb)
    | (go_at_call 11; refine (HS.out _).mono ?_; rintro e w3 ⟨rfl, ⟨k, rfl⟩⟩; have HY := Aside0.mk (r_drew (r_below HX.out HB.out) k); have HT := Aside0.mk ((Turns.of_below (S := ROwn rb lb) HB.out).drew k); generalize w2.drewN k = W3 at HY HT ⊢; obtain ⟨c0_, e1, e2⟩ := r_cells HY.out; have f2 := (r_frozen HY.out 2).1; have fl1 := (r_frozen HY.out (s * 3 + 1)).2; have fl2 := (r_frozen HY.out (s * 3 + 2)).2; obtain ⟨a0, a1, a2⟩ := r_at HY.out s hsn; have hap := r_apart HY.out; have hap2 := Ne.symm hap))
  have HZ := Aside0.mk (r_setClock (r_setU HY.out s hsn false) (clock + 1))
  have HT2 := Aside0.mk ((HT.out.set (a := ⟨lb, s * 3 + 1, none⟩) (.inl (.inr rfl)) (.bool false)).set (a := ⟨rb, 2, none⟩) (.inl (.inl rfl)) (.int .i64 (clock + 1)))
  generalize (W3.setCell ⟨lb, s * 3 + 1, none⟩ (.bool false)).setCell ⟨rb, 2, none⟩ (.int .i64 (clock + 1)) = W4 at HZ HT2 ⊢
  clear c0_ e1 e2 f2 fl1 fl2 a0 a1 a2
  obtain ⟨_, e1, e2⟩ := r_cells HZ.out
  have fl2 := (r_frozen HZ.out (s * 3 + 2)).2
  have a2 := (r_at HZ.out s hsn).2.2
  go_region
  go_wp2
  go_ret
  exact ⟨rfl, r_drew (r_setF HZ.out s hsn (clock + 1)) 1, (HT2.out.set (a := ⟨lb, s * 3 + 2, none⟩) (.inl (.inr rfl)) _).drew 1⟩
set_option maxHeartbeats 4000000 in
set_option maxRecDepth 100000 in
theorem rfree_worn {w : World} {B rb lb n : Nat} {first clock : Int} {G : Nat → Int} {U : Nat → Bool} {F : Nat → Int} (h : RLies w B rb lb first n G U F clock) (hn : n ≤ 1024) (id : Int) (i0 : 0 ≤ id) (i1 : id < 4294967296) (hr : isLive n G U id) (s : Nat) (hs : id % 1024 = s) (hg : ¬ id / 1024 < 4194303) :
    Calls Try.prog 23 #[.pointer (some ⟨rb, 0, none⟩), .int .u32 id] w fun e w' => e = .returned (.int .i64 0) ∧ RLies w' B rb lb first n G (fun i => if i = s then false else U i) F clock ∧ Turns (ROwn rb lb) w w' := by
  have HC := Aside0.mk (rlive_is true h hn id i0 i1 ⟨fun _ => hr, fun _ => rfl⟩)
  obtain ⟨r1, r2, r3⟩ := hr
  have hsn : s < n := by omega
  have hgs : G s = id / 1024 := by rw [← r3, hs]; rfl
  have HX := Aside0.mk h
  have HS := Aside0.mk (fun w => rslot_of id w i0 i1)
  rw [hs] at HS
  have hs0 : (0 : Int) ≤ (s : Int) := by omega
  have hs1 : (s : Int) < (n : Int) := by omega
  have dg : decide (id / 1024 < 4194303) = false := decide_eq_false hg
  clear h hs r1 r2 r3
  go_enter Try.func23, Try.ntmps23
  go_wp2_with (first
    | (go_at_call 24; (with_reducible refine HC.out.mono ?_); rintro e w2 ⟨rfl, hb⟩; have HB := Aside0.mk hb; clear hb)
    | (go_at_call 11; refine (HS.out _).mono ?_; rintro e w3 ⟨rfl, ⟨k, rfl⟩⟩; have HY := Aside0.mk (r_drew (r_below HX.out HB.out) k); have HT := Aside0.mk ((Turns.of_below (S := ROwn rb lb) HB.out).drew k); generalize w2.drewN k = W3 at HY HT ⊢; obtain ⟨c0_, e1, e2⟩ := r_cells HY.out; have f2 := (r_frozen HY.out 2).1; have fl1 := (r_frozen HY.out (s * 3 + 1)).2; have fl2 := (r_frozen HY.out (s * 3 + 2)).2; obtain ⟨a0, a1, a2⟩ := r_at HY.out s hsn; have hap := r_apart HY.out; have hap2 := Ne.symm hap))
  go_ret
  exact ⟨rfl, r_setU HY.out s hsn false, HT.out.set (a := ⟨lb, s * 3 + 1, none⟩) (.inl (.inr rfl)) (.bool false)⟩
end Go.Proofs.Ytehfbnpibimmiaa.Refs
