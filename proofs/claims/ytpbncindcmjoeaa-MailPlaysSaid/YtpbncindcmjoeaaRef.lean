/- Contracts of the reference's box, a number and a list: New, Put and Take (functions 8, 10 and 14). -/
import Derived.Test.YtpbncindcmjoeaaOrder
namespace Go.Proofs.Ytpbncindcmjoeaa.Ref
open Go.Conc Go.RowKit Go.Proofs.YtpbncindcmjoeaaW.PrintWords Go.Proofs.Ytpbncindcmjoeaa.Comm Go.Proofs.Ytpbncindcmjoeaa.All Go.Proofs.Ytpbncindcmjoeaa.Box Go.Proofs.Ytpbncindcmjoeaa.Awake Go.Proofs.Ytpbncindcmjoeaa.Order

/-- The reference's box as it lies: its room, and its list, whose cells lie from block B on. -/
def refObj (n : Int) (v : Value) : Obj := .cells #[.int .i64 n, v] 38 (0, 0)
structure RBox (w : World) (B rb : Nat) (n : Int) (A : Option Addr) (m : Nat) (l : List Int) : Prop where
  obj : w.heap[rb]? = some (refObj n (.slice A l.length m))
  cap : l.length ≤ m
  reads : ReadsInt w .i64 A l.length l
  from_ : ∀ ad, A = some ad → B ≤ ad.block
  lb : rb < B
theorem rbox_cells {w : World} {B rb : Nat} {n : Int} {A : Option Addr} {m : Nat} {l : List Int} (h : RBox w B rb n A m l) :
    w.cell? ⟨rb, 0, none⟩ = some (.int .i64 n) ∧ w.cell? ⟨rb, 1, none⟩ = some (.slice A l.length m) ∧ w.frozen? ⟨rb, 1, none⟩ = false := by
  refine ⟨?_, ?_, ?_⟩ <;> simp [World.cell?, World.frozen?, h.obj, refObj]
theorem reads_grown {w w' : World} {row : Option Nat} {k : IntKind} {A : Option Addr} {n : Nat} {xs : List Int} (h : ReadsInt w k A n xs) (hg : w.grownBy w' row) (hr : ∀ ad, A = some ad → row ≠ some ad.block) : ReadsInt w' k A n xs :=
  ⟨h.1, h.2.1, fun hn => by
    obtain ⟨ad, e, hc⟩ := h.2.2 hn
    refine ⟨ad, e, fun j hj => hg.cell (hc j hj) ?_⟩
    have : (ad.add j).block = ad.block := by unfold Addr.add; split <;> rfl
    rw [this]
    exact Ne.symm (hr ad e)⟩
/-- The list is kept where another row is written. -/
theorem rbox_other {w w' : World} {B rb : Nat} {n : Int} {A : Option Addr} {m : Nat} {l : List Int} (h : RBox w B rb n A m l) {row : Option Nat} (hg : w.grownBy w' row) (h1 : row ≠ some rb) (h2 : ∀ ad, A = some ad → row ≠ some ad.block) : RBox w' B rb n A m l :=
  { h with obj := by rw [hg.block rb (Array.getElem?_eq_some_iff.1 h.obj).1 (Ne.symm h1)]; exact h.obj, reads := reads_grown h.reads hg h2 }
theorem rbox_below {w w' : World} {B rb : Nat} {n : Int} {A : Option Addr} {m : Nat} {l : List Int} (h : RBox w B rb n A m l) (hb : Below w.heap.size w w') : RBox w' B rb n A m l :=
  { h with obj := by rw [hb.block rb (Array.getElem?_eq_some_iff.1 h.obj).1]; exact h.obj, reads := h.reads.below hb }

theorem new_bad (n : Int) (w : World) (h : n < 1 ∨ 256 < n) : Calls Try.prog 8 #[.int .i64 n] w fun e w' => e = .returned (.tuple #[.pointer none, .int .i64 1]) ∧ w = w' := by
  by_cases h1 : n < 1
  · have d : decide (n < 1) = true := decide_eq_true h1
    go_enter Try.func8, Try.ntmps8
    go_wp2
    go_ret2
    exact ⟨rfl, rfl⟩
  · have d : decide (n < 1) = false := decide_eq_false h1
    have d2 : decide (256 < n) = true := decide_eq_true (by omega)
    go_enter Try.func8, Try.ntmps8
    go_wp2
    go_ret2
    exact ⟨rfl, rfl⟩
theorem new_good (n : Int) (w : World) (h1 : 1 ≤ n) (h2 : n ≤ 256) :
    Calls Try.prog 8 #[.int .i64 n] w fun e w' => e = .returned (.tuple #[.pointer (some ⟨w.heap.size, 0, none⟩), .int .i64 0]) ∧ w' = w.alloc (refObj n (.slice none 0 0)) := by
  have d : decide (n < 1) = false := decide_eq_false (by omega)
  have d2 : decide (256 < n) = false := decide_eq_false (by omega)
  go_enter Try.func8, Try.ntmps8
  go_wp2
  go_ret2
  exact ⟨rfl, rfl⟩
theorem put_nil (v : Int) (w : World) : Calls Try.prog 10 #[.pointer none, .int .i64 v] w fun e w' => e = .returned (.int .i64 10) ∧ w = w' := by
  go_enter Try.func10, Try.ntmps10
  go_wp2
  go_ret
  exact ⟨rfl, rfl⟩
theorem take_nil (w : World) : Calls Try.prog 14 #[.pointer none] w fun e w' => e = .returned (.tuple #[.int .i64 0, .bool false]) ∧ w = w' := by
  go_enter Try.func14, Try.ntmps14
  go_wp2
  go_ret2
  exact ⟨rfl, rfl⟩
theorem take_none {w : World} {B rb : Nat} {n : Int} {A : Option Addr} {m : Nat} (h : RBox w B rb n A m []) : Calls Try.prog 14 #[.pointer (some ⟨rb, 0, none⟩)] w fun e w' => e = .returned (.tuple #[.int .i64 0, .bool false]) ∧ w = w' := by
  obtain ⟨c0, c1, f1⟩ := rbox_cells h
  simp only [List.length_nil] at c1
  clear h
  go_enter Try.func14, Try.ntmps14
  go_wp2
  go_ret2
  exact ⟨rfl, rfl⟩
theorem put_full {w : World} {B rb : Nat} {n : Int} {A : Option Addr} {m : Nat} {l : List Int} (h : RBox w B rb n A m l) (v : Int) (hl : (l.length : Int) = n) :
    Calls Try.prog 10 #[.pointer (some ⟨rb, 0, none⟩), .int .i64 v] w fun e w' => e = .returned (.int .i64 8) ∧ Drawn0 w w' := by
  obtain ⟨c0, c1, f1⟩ := rbox_cells h
  subst hl
  clear h
  go_enter Try.func10, Try.ntmps10
  go_wp2
  go_quiet (fail)
  go_wp2
  go_ret
  exact ⟨rfl, ⟨⟨_, rfl⟩⟩⟩

/-- What the two appends leave, ahead of the store. -/
structure Two (w : World) (B rb : Nat) (W : World) (v : Value) (l : List Int) : Prop where
  own : W.ownsRow w.heap.size 2 1 v l.length (nums .i64 l)
  grown : w.grownBy W none
theorem two_one {w W W1 : World} {B rb : Nat} {v0 v1 : Value} {l l1 : List Int} (h : w.grownBy W none) (hr : ∀ k, v0.ownBlock = some k → w.heap.size ≤ k) (hown : W1.ownsRow w.heap.size 2 1 v1 (l ++ l1).length (nums .i64 (l ++ l1))) (hg : W.grownBy W1 v0.ownBlock) : Two w B rb W1 v1 (l ++ l1) :=
  ⟨hown, ⟨hg.os.trans h.os, hg.tape.trans h.tape, hg.output.trans h.output, Nat.le_trans h.size hg.size, fun k hk _ => by
    rw [hg.block k (Nat.lt_of_lt_of_le hk h.size) (fun e => by have := hr k e.symm; omega)]; exact h.block k hk (by simp)⟩⟩
theorem two_rbox {w W : World} {B rb : Nat} {n : Int} {A : Option Addr} {m : Nat} {l l2 : List Int} {v : Value} (h : RBox w B rb n A m l) (ht : Two w B rb W v l2) : RBox W B rb n A m l :=
  rbox_other h ht.grown (by simp) (by simp)
theorem two_done {w W : World} {B rb : Nat} {n : Int} {A : Option Addr} {m : Nat} {l l2 : List Int} {v : Value} (h : RBox w B rb n A m l) (ht : Two w B rb W v l2) (hB : B ≤ w.heap.size) :
    ∃ A' m', RBox (W.setCell ⟨rb, 1, none⟩ v) B rb n A' m' l2 ∧ w.grownBy (W.setCell ⟨rb, 1, none⟩ v) (some rb) := by
  have hW := two_rbox h ht
  have hrb : rb < w.heap.size := (Array.getElem?_eq_some_iff.1 h.obj).1
  have hset : W.grownBy (W.setCell ⟨rb, 1, none⟩ v) (some rb) := ⟨rfl, rfl, rfl, by simp [World.setCell], fun k _ hk => Below.heap_setCell _ _ _ _ (fun e => hk (by rw [e]))⟩
  have hg : w.grownBy (W.setCell ⟨rb, 1, none⟩ v) (some rb) :=
    ⟨hset.os.trans ht.grown.os, hset.tape.trans ht.grown.tape, hset.output.trans ht.grown.output, Nat.le_trans ht.grown.size hset.size, fun k hk hne => by
      rw [hset.block k (Nat.lt_of_lt_of_le hk ht.grown.size) hne]; exact ht.grown.block k hk (by simp)⟩
  obtain ⟨A', c', rfl, hr⟩ := own_reads ht.own
  have hbl : ∀ ad, A' = some ad → w.heap.size ≤ ad.block := by
    intro ad e
    subst e
    exact own_base ht.own _ rfl
  have hcap : l2.length ≤ c' := by
    rcases ht.own.2 with ⟨h1, h2⟩ | ⟨g, cap, cur, h1, _, _, h2, _⟩
    · omega
    · injection h1 with _ _ h1; omega
  refine ⟨A', c', ⟨?_, hcap, reads_grown hr hset (fun ad e => by have := hbl ad e; intro e2; injection e2; omega), fun ad e => Nat.le_trans hB (hbl ad e), h.lb⟩, hg⟩
  have ho := hW.obj
  show (W.heap.modify rb _)[rb]? = _
  rw [Array.getElem?_modify, if_pos rfl, ho]
  simp [refObj]

theorem grown_lit (w : World) (k : Nat) : w.grownBy ((w.drewN k).alloc (.cells #[] 2)) none :=
  ⟨rfl, rfl, rfl, by simp, fun j hj _ => Below.heap_alloc (w.drewN k) _ _ hj⟩
theorem reads_lit {w : World} {B rb : Nat} {n : Int} {A : Option Addr} {m : Nat} {l : List Int} (h : RBox w B rb n A m l) (k : Nat) : ReadsInt ((w.drewN k).alloc (.cells #[] 2)) .i64 A l.length l :=
  reads_grown h.reads (grown_lit w k) (by simp)
set_option maxHeartbeats 1000000 in
theorem put_room {w : World} {B rb : Nat} {n : Int} {A : Option Addr} {m : Nat} {l : List Int} (h : RBox w B rb n A m l) (v : Int) (hl : (l.length : Int) < n) (hn : n ≤ 256) (hB : B ≤ w.heap.size) :
    Calls Try.prog 10 #[.pointer (some ⟨rb, 0, none⟩), .int .i64 v] w fun e w' => e = .returned (.int .i64 0) ∧ ∃ A' m', RBox w' B rb n A' m' (l ++ [v]) ∧ w.grownBy w' (some rb) := by
  obtain ⟨c0, c1, f1⟩ := rbox_cells h
  have HX := Aside0.mk h
  have d : ((l.length : Int) == n) = false := by rw [beq_eq_false_iff_ne]; omega
  clear h
  have hrb : rb < w.heap.size := (Array.getElem?_eq_some_iff.1 HX.out.obj).1
  have cA : ∀ k, ((w.drewN k).alloc (.cells #[] 2)).cell? ⟨rb, 1, none⟩ = some (.slice A l.length m) := fun k => by
    rw [World.cell?_of_block (w := w.drewN k) (Below.heap_alloc _ _ _ hrb)]; exact c1
  go_enter Try.func10, Try.ntmps10
  go_wp2
  go_quiet (fail)
  go_wp2_with (first
    | (at_builtin; refine print_append_row (w0 := (w.drewN nq).alloc (.cells #[] 2)) w.heap.size rfl (.tmp 18) (.tmp 22) 34 2 .i64 8 rfl Try.underlying34 info2 (by decide) _ [] l A _ m rfl rfl (own_lit (w.drewN nq) w.heap.size 2 .i64 [] (Nat.le_refl _) (by decide)) (reads_lit HX.out nq) (Below.refl _ _) (by simp) (by simp; omega) ?_; intro v1 w1 hown _ hg hat; have HT := Aside0.mk (two_one (B := B) (rb := rb) (grown_lit w nq) (fun k hk => by injection hk with hk; rw [← hk]; exact Nat.le_refl _) hown hg); clear hown hg hat)
    | (at_builtin; refine print_append_num (w0 := w1) w.heap.size rfl (.tmp 23) (.tmp 25) 34 2 .i64 8 rfl Try.underlying34 info2 (by decide) _ ([] ++ l) v rfl rfl HT.out.own (Below.refl _ _) HT.out.grown.size (by simp; omega) ?_; intro v2 w2 hown _ hg hat; obtain ⟨A2, c2, rfl⟩ := own_slice hown; have HT2 := Aside0.mk (two_one (B := B) (rb := rb) HT.out.grown (own_base HT.out.own) hown hg); clear hown hg hat; obtain ⟨d0, d1, f2⟩ := rbox_cells (two_rbox HX.out HT2.out)))
  go_ret
  exact ⟨rfl, by have := two_done HX.out HT2.out hB; simpa using this⟩

theorem cut_one (A : Option Addr) (n c : Nat) (hn : n + 1 ≤ c) :
    ∃ A' : Option Addr, (∀ W : World, (Instr.slice 34 (.slice A (n + 1) c) (some (.int .i64 1)) none none).run Try.prog W = .ok (.slice A' n (c - 1)) W) ∧
      (∀ (w : World) (x : Int) (xs : List Int), ReadsInt w .i64 A (n + 1) (x :: xs) → ReadsInt w .i64 A' n xs) ∧ ∀ ad', A' = some ad' → ∃ ad, A = some ad ∧ ad'.block = ad.block := by
  obtain ⟨i, hi, hz, hs, hb⟩ := info_parts info2
  refine ⟨if c = 1 then A else A.map (·.add 1), fun W => ?_, fun w x xs h => ?_, fun ad' he => ?_⟩
  · have hel : Try.prog.elem 34 = 2 := by simp [Program.elem, Try.underlying34]
    have hu : Try.prog.underlying 34 = some (.slice (Try.prog.elem 34)) := by rw [hel]; exact Try.underlying34
    rw [run_slice_l W 34 A (n + 1) c hu .i64 1 (by omega) (by omega), hel]
    simp [sizeOf, typeInfo, hi, hs, sliced, Result.andThen]
  · have := h.drop_ 1 (by omega) (c := c) hn
    simpa using this
  · by_cases hc : c = 1
    · rw [if_pos hc] at he; exact ⟨ad', he, rfl⟩
    · rw [if_neg hc] at he
      cases A with
      | none => simp at he
      | some ad => exact ⟨ad, rfl, by simp at he; rw [← he]; unfold Addr.add; split <;> rfl⟩
theorem take_done {w : World} {B rb : Nat} {n : Int} {A A' : Option Addr} {m m' : Nat} {y : Int} {l : List Int} (h : RBox w B rb n A m (y :: l)) (hr : ReadsInt w .i64 A' l.length l) (hc : l.length ≤ m') (hb : ∀ ad', A' = some ad' → ∃ ad, A = some ad ∧ ad'.block = ad.block) :
    RBox (w.setCell ⟨rb, 1, none⟩ (.slice A' l.length m')) B rb n A' m' l ∧ w.grownBy (w.setCell ⟨rb, 1, none⟩ (.slice A' l.length m')) (some rb) := by
  have hset : w.grownBy (w.setCell ⟨rb, 1, none⟩ (.slice A' l.length m')) (some rb) := ⟨rfl, rfl, rfl, by simp [World.setCell], fun k _ hk => Below.heap_setCell _ _ _ _ (fun e => hk (by rw [e]))⟩
  have hB : ∀ ad', A' = some ad' → B ≤ ad'.block := fun ad' e => by
    obtain ⟨ad, e1, e2⟩ := hb ad' e
    rw [e2]; exact h.from_ ad e1
  have hlb := h.lb
  refine ⟨⟨?_, hc, reads_grown hr hset (fun ad e => by have := hB ad e; intro e2; injection e2; omega), hB, hlb⟩, hset⟩
  have ho := h.obj
  show (w.heap.modify rb _)[rb]? = _
  rw [Array.getElem?_modify, if_pos rfl, ho]
  simp [refObj]

set_option maxHeartbeats 1000000 in
set_option maxRecDepth 100000 in
theorem take_some {w : World} {B rb : Nat} {n : Int} {A : Option Addr} {m : Nat} {y : Int} {l : List Int} (h : RBox w B rb n A m (y :: l)) (hl : l.length ≤ 256) :
    Calls Try.prog 14 #[.pointer (some ⟨rb, 0, none⟩)] w fun e w' => e = .returned (.tuple #[.int .i64 y, .bool true]) ∧ ∃ A' m', RBox w' B rb n A' m' l ∧ w.grownBy w' (some rb) := by
  obtain ⟨c0, c1, f1⟩ := rbox_cells h
  obtain ⟨ad, rfl, hy⟩ := h.reads.at_ 0 (by omega) (by simp)
  have hm : l.length + 1 ≤ m := by have := h.cap; simpa using this
  obtain ⟨A', hcut, hr, hbk⟩ := cut_one (some ad) l.length m hm
  have HD := Aside0.mk (take_done h (hr _ _ _ h.reads) (show l.length ≤ m - 1 by omega) hbk)
  have hy' : w.cell? ad = some (.int .i64 y) := by
    have e : ad.add (0 : Int).toNat = ad := by unfold Addr.add; simp
    rw [e] at hy
    simpa [rd] using hy
  have hd : decide ((l.length : Int) + 1 = 0) = false := by rw [decide_eq_false_iff_not]; omega
  have hd2 : ((l.length : Int) + 1 == 0) = false := by rw [beq_eq_false_iff_ne]; omega
  simp only [List.length_cons] at c1
  clear h hy hr hbk
  go_enter Try.func14, Try.ntmps14
  go_wp2
  go_ret2
  exact ⟨rfl, _, _, HD.out⟩
end Go.Proofs.Ytpbncindcmjoeaa.Ref
