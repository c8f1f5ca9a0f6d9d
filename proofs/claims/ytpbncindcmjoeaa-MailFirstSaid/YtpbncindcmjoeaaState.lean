/- What lies in memory in the course of MailFirst: three rows of the call's own (the boxes' pointers; what is wanted; whence), and the boxes. What each step of it leaves. -/
import Derived.Test.YtpbncindcmjoeaaFirst
namespace Go.Proofs.Ytpbncindcmjoeaa.State
open Go.Conc Go.RowKit Go.Proofs.YtpbncindcmjoeaaW.PrintWords Go.Proofs.Ytpbncindcmjoeaa.Comm Go.Proofs.Ytpbncindcmjoeaa.All Go.Proofs.Ytpbncindcmjoeaa.Box Go.Proofs.Ytpbncindcmjoeaa.Awake Go.Proofs.Ytpbncindcmjoeaa.Order Go.Proofs.Ytpbncindcmjoeaa.First

theorem info3 : (Try.prog.info? 3).map (fun i => (i.zero, i.size, i.bytes)) = some (some (.int .i64 0), 1, 8) := by kernel_rfl
theorem info24 : (Try.prog.info? 24).map (fun i => (i.zero, i.size, i.bytes)) = some (some (.pointer none), 1, 8) := by kernel_rfl

structure FSt (w0 W : World) (vb vw va : Value) (rs bs : List Bx) (ws ks : List Int) : Prop where
  pb : W.ownsRow w0.heap.size 24 1 vb (rs.map ptr).length (rs.map ptr)
  pw : W.ownsRow w0.heap.size 2 1 vw ws.length (nums .i64 ws)
  pa : W.ownsRow w0.heap.size 3 1 va ks.length (nums .i64 ks)
  bx : Boxes W w0.heap.size bs
  below : Below w0.heap.size w0 W
section
variable {w0 W W1 : World} {vb vw va v1 : Value} {rs bs : List Bx} {ws ks : List Int}
theorem ne_chan {B n c : Nat} {e : TypeId} {v : Value} {xs : List Value} {m s r : Nat} {l : List Int} (h : W.ownsRow B e 1 v n xs) (hc : W.heap[c]? = some (chanOf m l s r)) : v.ownBlock = none ∨ v.ownBlock ≠ some c := by
  refine .inr fun e => ?_
  obtain ⟨cells, hh⟩ := own_typed h c e
  rw [hh] at hc
  simp [chanOf] at hc
theorem row_ok {B n : Nat} {e : TypeId} {v : Value} {xs : List Value} (h : W.ownsRow B e 1 v n xs) (he : e ≠ 54) : ∀ g, v.ownBlock = some g → ∃ cs t, W.heap[g]? = some (.cells cs t (0, 0)) ∧ t ≠ 54 := fun g hg => by
  obtain ⟨cells, hh⟩ := own_typed h g hg
  exact ⟨cells, e, hh, he⟩
theorem f_below (h : FSt w0 W vb vw va rs bs ws ks) (hb : Below W.heap.size W W1) : FSt w0 W1 vb vw va rs bs ws ks :=
  ⟨pw_own_below h.pb hb, pw_own_below h.pw hb, pw_own_below h.pa hb, boxes_below h.bx hb, h.below.trans (hb.mono h.below.size)⟩
/-- One box turns. -/
theorem f_box (h : FSt w0 W vb vw va rs bs ws ks) {i b c : Nat} {l l' : List Int} (hi : bs[i]? = some (some (b, c, l))) (hg : W.grownBy W1 (some c)) (hb : Box W1 b c 20 l') (hl : l'.length ≤ 20) : FSt w0 W1 vb vw va rs (bs.set i (some (b, c, l'))) ws ks := by
  obtain ⟨h1, h2, h3⟩ := h.bx.lie i b c l hi
  obtain ⟨s, r, hc⟩ := h1.chan
  exact ⟨own_other h.pb hg (ne_chan h.pb hc), own_other h.pw hg (ne_chan h.pw hc), own_other h.pa hg (ne_chan h.pa hc), boxes_set h.bx hi hg hb hl, below_c h.below hg h3⟩
theorem last_at (bs : List Bx) (x : Bx) : (bs ++ [x])[bs.length]? = some x := by simp
theorem set_last (bs : List Bx) (x y : Bx) : (bs ++ [x]).set bs.length y = bs ++ [y] := by simp
/-- A new box. -/
theorem f_new (h : FSt w0 W vb vw va rs bs ws ks) (hb : Box W1 (W.heap.size + 1) W.heap.size 20 []) (hB : Below W.heap.size W W1) : FSt w0 W1 vb vw va rs (bs ++ [some (W.heap.size + 1, W.heap.size, [])]) ws ks := by
  have h' := f_below h hB
  have hc : ∀ i b c l, bs[i]? = some (some (b, c, l)) → c < W.heap.size := fun i b c l hi => (box_lt (h.bx.lie i b c l hi).1).2
  refine { h' with bx := ⟨fun i b c l hi => ?_, fun i j b c l b' c' l' hij hi hj => ?_⟩ }
  · rcases Nat.lt_or_ge i bs.length with hlt | hge
    · rw [List.getElem?_append_left hlt] at hi
      exact h'.bx.lie i b c l hi
    · have hlt := (List.getElem?_eq_some_iff.1 hi).1
      have e : i = bs.length := by simp at hlt; omega
      subst e
      rw [last_at] at hi
      simp at hi
      obtain ⟨rfl, rfl, rfl⟩ := hi
      exact ⟨hb, by simp, h.below.size⟩
  · have hli := (List.getElem?_eq_some_iff.1 hi).1
    have hlj := (List.getElem?_eq_some_iff.1 hj).1
    simp at hli hlj
    rcases Nat.lt_or_ge i bs.length with hlt | hge <;> rcases Nat.lt_or_ge j bs.length with hlt' | hge'
    · rw [List.getElem?_append_left hlt] at hi
      rw [List.getElem?_append_left hlt'] at hj
      exact h.bx.apart i j b c l b' c' l' hij hi hj
    · have e : j = bs.length := by omega
      subst e
      rw [List.getElem?_append_left hlt] at hi
      rw [last_at] at hj
      simp at hj
      have := hc i b c l hi
      omega
    · have e : i = bs.length := by omega
      subst e
      rw [List.getElem?_append_left hlt'] at hj
      rw [last_at] at hi
      simp at hi
      have := hc j b' c' l' hj
      omega
    · omega
theorem f_want (h : FSt w0 W vb vw va rs bs ws ks) {x : Int} (hown : W1.ownsRow w0.heap.size 2 1 v1 (ws ++ [x]).length (nums .i64 (ws ++ [x]))) (hg : W.grownBy W1 vw.ownBlock) : FSt w0 W1 vb v1 va rs bs (ws ++ [x]) ks :=
  ⟨own_other h.pb hg (own_type_ne h.pb h.pw (by decide)), hown, own_other h.pa hg (own_type_ne h.pa h.pw (by decide)), boxes_other h.bx hg (row_ok h.pw (by decide)), h.below.grown hg h.below.size (own_base h.pw)⟩
theorem f_at (h : FSt w0 W vb vw va rs bs ws ks) {x : Int} (hown : W1.ownsRow w0.heap.size 3 1 v1 (ks ++ [x]).length (nums .i64 (ks ++ [x]))) (hg : W.grownBy W1 va.ownBlock) : FSt w0 W1 vb vw v1 rs bs ws (ks ++ [x]) :=
  ⟨own_other h.pb hg (own_type_ne h.pb h.pa (by decide)), own_other h.pw hg (own_type_ne h.pw h.pa (by decide)), hown, boxes_other h.bx hg (row_ok h.pa (by decide)), h.below.grown hg h.below.size (own_base h.pa)⟩
theorem f_ptr (h : FSt w0 W vb vw va rs bs ws ks) {x : Bx} (hown : W1.ownsRow w0.heap.size 24 1 v1 (rs.map ptr ++ [ptr x]).length (rs.map ptr ++ [ptr x])) (hg : W.grownBy W1 vb.ownBlock) : FSt w0 W1 v1 vw va (rs ++ [x]) bs ws ks :=
  ⟨by simpa using hown, own_other h.pw hg (own_type_ne h.pw h.pb (by decide)), own_other h.pa hg (own_type_ne h.pa h.pb (by decide)), boxes_other h.bx hg (row_ok h.pb (by decide)), h.below.grown hg h.below.size (own_base h.pb)⟩
/-- A gap: a nil box. -/
theorem f_gap (h : FSt w0 W vb vw va rs bs ws ks) : FSt w0 W vb vw va rs (bs ++ [none]) ws ks := by
  have back : ∀ (j b1 c1 : Nat) (l1 : List Int), (bs ++ [none])[j]? = some (some (b1, c1, l1)) → bs[j]? = some (some (b1, c1, l1)) := by
    intro j b1 c1 l1 hj
    rcases Nat.lt_or_ge j bs.length with hlt | hge
    · rwa [List.getElem?_append_left hlt] at hj
    · have hlt := (List.getElem?_eq_some_iff.1 hj).1
      have e : j = bs.length := by simp at hlt; omega
      subst e
      rw [last_at] at hj
      simp at hj
  exact { h with bx := ⟨fun i b c l hi => h.bx.lie i b c l (back i b c l hi), fun i j b c l b' c' l' hij hi hj => h.bx.apart i j b c l b' c' l' hij (back i b c l hi) (back j b' c' l' hj)⟩ }
theorem ptrs_of (h : FSt w0 W vb vw va rs bs ws ks) (hp : bs.map ptr = rs.map ptr) : Ptrs W vb bs := by
  have hlen : bs.length = rs.length := by have := congrArg List.length hp; simpa using this
  have hpb := h.pb
  rw [← hp] at hpb
  rcases Nat.eq_zero_or_pos bs.length with h0 | h0
  · obtain ⟨A, c, rfl⟩ := own_slice hpb
    exact ⟨A, c, by simp, by omega, fun hh => absurd hh (by omega)⟩
  · obtain ⟨g, cap, rfl, _, _⟩ := hpb.form (by simpa using h0)
    have hm : bs.length ≤ 9223372036854775807 := by
      have hl : (bs.map ptr).length = bs.length := by simp
      rcases hpb.2 with ⟨_, h1⟩ | ⟨g', cap', cur, he, _, _, h1, h2, _⟩
      · omega
      · simp only [maxLen] at h2
        omega
    refine ⟨_, cap, by simp, hm, fun _ => ⟨_, rfl, fun j hj => hpb.cells (g := g) rfl j _ ?_⟩⟩
    simp [List.getD_eq_getElem?_getD, hj]
/-- First, where something is there. -/
theorem first_some (h : FSt w0 W vb vw va rs bs ws ks) (hp : bs.map ptr = rs.map ptr) {k v : Int} {r : List (Int × Int)} (hi : items 0 bs = (k, v) :: r) :
    Calls Try.prog 17 #[vb] W fun e W' => e = .returned (.tuple #[.int .i64 k, .int .i64 v, .bool true]) ∧ ∃ bs', FSt w0 W' vb vw va rs bs' ws ks ∧ bs'.map ptr = rs.map ptr ∧ items 0 bs' = r := by
  refine (first_calls (ptrs_of h hp) h.bx).mono ?_
  intro e W' hf
  unfold Firsted at hf
  rw [hi] at hf
  obtain ⟨he, i, b, c, l, hb, hg, hbx, hr⟩ := hf
  refine ⟨he, bs.set i (some (b, c, l)), ?_, ?_, hr⟩
  · have hl := h.bx.lie i b c _ hb
    have hbox := (hbx.lie i b c l (List.getElem?_set_self (List.getElem?_eq_some_iff.1 hb).1)).1
    exact f_box h hb hg hbox (by have := hl.2.1; simp at this; omega)
  · rw [← hp]
    apply List.ext_getElem?
    intro j
    by_cases e : j = i
    · subst e
      have hlt := (List.getElem?_eq_some_iff.1 hb).1
      simp [hlt, ptr]
      have := (List.getElem?_eq_some_iff.1 hb).2
      rw [this]
    · simp [List.getElem?_set_ne (Ne.symm e)]
theorem first_nil (h : FSt w0 W vb vw va rs bs ws ks) (hp : bs.map ptr = rs.map ptr) (hi : items 0 bs = []) :
    Calls Try.prog 17 #[vb] W fun e W' => e = .returned (.tuple #[.int .i64 0, .int .i64 0, .bool false]) ∧ W = W' := by
  refine (first_calls (ptrs_of h hp) h.bx).mono ?_
  intro e W' hf
  unfold Firsted at hf
  rw [hi] at hf
  exact hf
end
end Go.Proofs.Ytpbncindcmjoeaa.State
