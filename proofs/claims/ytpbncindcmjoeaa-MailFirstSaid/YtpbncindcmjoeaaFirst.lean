/- The contract of First (function 17): out of several boxes, some of them nil, the first thing that is there. -/
import Derived.Test.YtpbncindcmjoeaaOrder
namespace Go.Proofs.Ytpbncindcmjoeaa.First
open Go.Conc Go.RowKit Go.Proofs.YtpbncindcmjoeaaW.PrintWords Go.Proofs.Ytpbncindcmjoeaa.Comm Go.Proofs.Ytpbncindcmjoeaa.All Go.Proofs.Ytpbncindcmjoeaa.Box Go.Proofs.Ytpbncindcmjoeaa.Awake Go.Proofs.Ytpbncindcmjoeaa.Order

/-- A box, or none: its blocks, and what it holds. -/
abbrev Bx := Option (Nat × Nat × List Int)
def ptr : Bx → Value
  | none => .pointer none
  | some (b, _, _) => .pointer (some ⟨b, 0, none⟩)
/-- What comes out, each with its box's number. -/
def items : Int → List Bx → List (Int × Int)
  | _, [] => []
  | k, none :: r => items (k + 1) r
  | k, some (_, _, l) :: r => l.map (fun v => (k, v)) ++ items (k + 1) r
theorem items_append (k : Int) (xs ys : List Bx) : items k (xs ++ ys) = items k xs ++ items (k + xs.length) ys := by
  induction xs generalizing k with
  | nil => simp [items]
  | cons x xs ih =>
    have e : k + 1 + (xs.length : Int) = k + ((xs.length : Int) + 1) := by omega
    cases x with
    | none => simp [items, ih, e]
    | some q => obtain ⟨b, c, l⟩ := q; simp [items, ih, e]

/-- All boxes lie in memory, each with a channel of its own. -/
structure Boxes (W : World) (B : Nat) (bs : List Bx) : Prop where
  lie : ∀ (i b c : Nat) (l : List Int), bs[i]? = some (some (b, c, l)) → Box W b c 20 l ∧ l.length ≤ 20 ∧ B ≤ c
  apart : ∀ (i j b c : Nat) (l : List Int) (b' c' : Nat) (l' : List Int), i ≠ j → bs[i]? = some (some (b, c, l)) → bs[j]? = some (some (b', c', l')) → c ≠ c'
theorem box_ne {W : World} {b c n b' c' n' : Nat} {l l' : List Int} (h : Box W b c n l) (h' : Box W b' c' n' l') : b ≠ c' := by
  intro e
  obtain ⟨s, r, hh⟩ := h'.chan
  have := h.box
  rw [e, hh] at this
  simp [chanOf, boxObj] at this
/-- One box turns. -/
theorem boxes_set {W W1 : World} {B : Nat} {bs : List Bx} (h : Boxes W B bs) {i b c : Nat} {l l' : List Int} (hi : bs[i]? = some (some (b, c, l))) (hg : W.grownBy W1 (some c)) (hb : Box W1 b c 20 l') (hl : l'.length ≤ 20) :
    Boxes W1 B (bs.set i (some (b, c, l'))) := by
  have hlt : i < bs.length := (List.getElem?_eq_some_iff.1 hi).1
  have hold := h.lie i b c l hi
  have back : ∀ (j b1 c1 : Nat) (l1 : List Int), (bs.set i (some (b, c, l')))[j]? = some (some (b1, c1, l1)) → (j = i ∧ b1 = b ∧ c1 = c ∧ l1 = l') ∨ (j ≠ i ∧ bs[j]? = some (some (b1, c1, l1))) := by
    intro j b1 c1 l1 hj
    by_cases e : j = i
    · subst e
      rw [List.getElem?_set_self hlt] at hj
      simp at hj
      exact .inl ⟨rfl, hj.1.symm, hj.2.1.symm, hj.2.2.symm⟩
    · rw [List.getElem?_set_ne (Ne.symm e)] at hj
      exact .inr ⟨e, hj⟩
  constructor
  · intro j b1 c1 l1 hj
    rcases back j b1 c1 l1 hj with ⟨rfl, rfl, rfl, rfl⟩ | ⟨hne, hj⟩
    · exact ⟨hb, hl, hold.2.2⟩
    · have h1 := h.lie j b1 c1 l1 hj
      have hc := h.apart j i b1 c1 l1 b c l hne hj hi
      exact ⟨box_other h1.1 hg (fun e => box_ne h1.1 hold.1 (by injection e with e; exact e.symm)) (fun e => hc (by injection e with e; exact e.symm)), h1.2⟩
  · intro j k b1 c1 l1 b2 c2 l2 hjk hj hk
    rcases back j b1 c1 l1 hj with ⟨rfl, rfl, rfl, rfl⟩ | ⟨hne, hj'⟩ <;> rcases back k b2 c2 l2 hk with ⟨rfl, rfl, rfl, rfl⟩ | ⟨hne', hk'⟩
    · exact absurd rfl hjk
    · exact h.apart _ _ _ _ _ _ _ _ hjk hi hk'
    · exact h.apart _ _ _ _ _ _ _ _ hjk hj' hi
    · exact h.apart _ _ _ _ _ _ _ _ hjk hj' hk'
/-- Other rows turn, none of them a box. -/
theorem boxes_other {W W1 : World} {B : Nat} {bs : List Bx} (h : Boxes W B bs) {row : Option Nat} (hg : W.grownBy W1 row) (hr : ∀ g, row = some g → ∃ cs t, W.heap[g]? = some (.cells cs t (0, 0)) ∧ t ≠ 54) : Boxes W1 B bs := by
  refine ⟨fun i b c l hi => ?_, h.apart⟩
  obtain ⟨h1, h2⟩ := h.lie i b c l hi
  refine ⟨box_other h1 hg (fun e => ?_) (fun e => ?_), h2⟩
  · obtain ⟨cs, t, hh, ht⟩ := hr b e
    have := h1.box
    rw [hh] at this
    simp [boxObj] at this
    exact ht this.2
  · obtain ⟨cs, t, hh, ht⟩ := hr c e
    obtain ⟨s, r, hc⟩ := h1.chan
    rw [hh] at hc
    simp [chanOf] at hc
theorem boxes_below {W W1 : World} {B : Nat} {bs : List Bx} (h : Boxes W B bs) (hb : Below W.heap.size W W1) : Boxes W1 B bs :=
  ⟨fun i b c l hi => ⟨box_below (h.lie i b c l hi).1 hb, (h.lie i b c l hi).2⟩, h.apart⟩

/-- The list of the boxes' pointers, as it is read. -/
def Ptrs (W : World) (v : Value) (bs : List Bx) : Prop := ∃ A c, v = .slice A bs.length c ∧ bs.length ≤ 9223372036854775807 ∧ (0 < bs.length → ∃ ad, A = some ad ∧ ∀ j, j < bs.length → W.cell? (ad.add j) = some (ptr (bs.getD j none)))

/-- What First leaves. -/
def Firsted (W : World) (B : Nat) (bs : List Bx) (e : Ending) (W' : World) : Prop :=
  match items 0 bs with
  | [] => e = .returned (.tuple #[.int .i64 0, .int .i64 0, .bool false]) ∧ W = W'
  | (k, v) :: r => e = .returned (.tuple #[.int .i64 k, .int .i64 v, .bool true]) ∧ ∃ (i b c : Nat) (l : List Int), bs[i]? = some (some (b, c, v :: l)) ∧ W.grownBy W' (some c) ∧ Boxes W' B (bs.set i (some (b, c, l))) ∧ items 0 (bs.set i (some (b, c, l))) = r

theorem firsted_none {W : World} {B : Nat} {bs : List Bx} (h : items 0 bs = []) : Firsted W B bs (.returned (.tuple #[.int .i64 0, .int .i64 0, .bool false])) W := by
  unfold Firsted; rw [h]; exact ⟨rfl, rfl⟩
theorem items_set {bs : List Bx} {i b c : Nat} {v : Int} {l : List Int} (hi : bs[i]? = some (some (b, c, v :: l))) (h0 : items 0 bs = items i (bs.drop i)) :
    items 0 bs = ((i : Int), v) :: items 0 (bs.set i (some (b, c, l))) := by
  have hlt : i < bs.length := (List.getElem?_eq_some_iff.1 hi).1
  have hd : bs.drop i = some (b, c, v :: l) :: bs.drop (i + 1) := by
    rw [List.drop_eq_getElem_cons hlt]
    have := (List.getElem?_eq_some_iff.1 hi).2
    rw [this]
  have ht : items 0 (bs.take i) = [] := by
    have h1 : items 0 bs = items 0 (bs.take i) ++ items i (bs.drop i) := by
      conv => lhs; rw [← List.take_append_drop i bs]
      rw [items_append]
      simp [Nat.min_eq_left (Nat.le_of_lt hlt)]
    rw [h0] at h1
    have := congrArg List.length h1
    simp at this
    exact this
  have hs : bs.set i (some (b, c, l)) = bs.take i ++ some (b, c, l) :: bs.drop (i + 1) := by
    rw [List.set_eq_take_append_cons_drop, if_pos hlt]
  rw [h0, hd, hs, items_append, ht]
  simp [items, Nat.min_eq_left (Nat.le_of_lt hlt)]
theorem firsted_some {W W' : World} {B : Nat} {bs : List Bx} (hB : Boxes W B bs) {i b c : Nat} {v : Int} {l : List Int} (hi : bs[i]? = some (some (b, c, v :: l))) (h0 : items 0 bs = items i (bs.drop i)) (hg : W.grownBy W' (some c)) (hb : Box W' b c 20 l) :
    Firsted W B bs (.returned (.tuple #[.int .i64 i, .int .i64 v, .bool true])) W' := by
  unfold Firsted
  rw [items_set hi h0]
  have hl := (hB.lie i b c _ hi).2.1
  exact ⟨rfl, i, b, c, l, hi, hg, boxes_set hB hi hg hb (by simp at hl; omega), rfl⟩
theorem items_skip {bs : List Bx} {i : Nat} (hlt : i < bs.length) (h0 : items 0 bs = items i (bs.drop i)) (h : bs.getD i none = none ∨ ∃ b c, bs.getD i none = some (b, c, [])) : items 0 bs = items ((i : Int) + 1) (bs.drop (i + 1)) := by
  rw [h0, List.drop_eq_getElem_cons hlt]
  have e : bs.getD i none = bs[i] := by simp [List.getD_eq_getElem?_getD, hlt]
  rw [e] at h
  rcases h with h | ⟨b, c, h⟩ <;> rw [h] <;> simp [items]
theorem take_same {w : World} {b c n : Nat} (h : Box w b c n []) :
    Calls Try.prog 13 #[.pointer (some ⟨b, 0, none⟩)] w fun e w' => e = .returned (.tuple #[.int .i64 0, .bool false]) ∧ w = w' := by
  obtain ⟨s, r, hc⟩ := h.chan
  refine (take_none b c n w s r h.box hc).mono ?_
  rintro e w' ⟨rfl, rfl⟩
  exact ⟨rfl, rfl⟩
def FRel (bs : List Bx) (i : Value) : Prop := ∃ x : Nat, i = .int .i64 x ∧ x ≤ bs.length ∧ items 0 bs = items x (bs.drop x)

set_option maxHeartbeats 2000000 in
set_option maxRecDepth 100000 in
theorem first_calls {W : World} {B : Nat} {bs : List Bx} {v : Value} (hP : Ptrs W v bs) (hB : Boxes W B bs) : Calls Try.prog 17 #[v] W (Firsted W B bs) := by
  obtain ⟨A, cp, rfl, hm, hc⟩ := hP
  have HC := Aside0.mk hc
  have HB := Aside0.mk hB
  clear hc hB
  go_enter Try.func17, Try.ntmps17
  go_wp2
  go_loop [12] (fun i => FRel bs i) (fun i => bs.length - (intOf i).toNat)
  case atStart => exact ⟨0, rfl, by omega, by simp⟩
  case round =>
    obtain ⟨x, rfl, hx, h0⟩ := hrel
    have H0 := Aside0.mk h0
    clear h0
    by_cases hend : x < bs.length
    · obtain ⟨ad, rfl, hcell⟩ := HC.out (by omega)
      have hcx := hcell x hend
      clear hcell
      have d0 : decide ((x : Int) < (bs.length : Int)) = true := decide_eq_true (by omega)
      cases hb : bs.getD x none with
      | none =>
        rw [hb] at hcx
        have HX := Aside0.mk (items_skip hend H0.out (.inl hb))
        clear hb
        simp only [ptr] at hcx
        go_wp2_with (go_at_call 13; (with_reducible refine (Comm.take_nil _).mono ?_); rintro e w1 ⟨rfl, rfl⟩)
        go_round
        case rel => exact ⟨x + 1, by go_num, by omega, by simpa using HX.out⟩
        case measure => simp [intOf]; omega
      | some q =>
        obtain ⟨b, c, l⟩ := q
        have hq : bs[x]? = some (some (b, c, l)) := by
          have e : bs.getD x none = bs[x] := by simp [List.getD_eq_getElem?_getD, hend]
          rw [List.getElem?_eq_getElem hend, ← e, hb]
        rw [hb] at hcx
        simp only [ptr] at hcx
        cases l with
        | nil =>
          have HX := Aside0.mk (items_skip hend H0.out (.inr ⟨b, c, hb⟩))
          have HQ := Aside0.mk (HB.out.lie x b c [] hq).1
          clear hb hq
          go_wp2_with (go_at_call 13; (with_reducible refine (take_same HQ.out).mono ?_); rintro e w1 ⟨rfl, rfl⟩)
          go_round
          case rel => exact ⟨x + 1, by go_num, by omega, by simpa using HX.out⟩
          case measure => simp [intOf]; omega
        | cons y l =>
          have HQ := Aside0.mk (HB.out.lie x b c (y :: l) hq).1
          have HI := Aside0.mk hq
          clear hb hq
          go_wp2_with (go_at_call 13; (with_reducible refine (take_cons HQ.out).mono ?_); rintro e w1 ⟨rfl, hg, hbx⟩)
          go_ret3
          exact firsted_some HB.out HI.out H0.out hg hbx
    · have d0 : decide ((x : Int) < (bs.length : Int)) = false := decide_eq_false (by omega)
      go_wp2
      go_ret3
      exact firsted_none (by rw [H0.out, List.drop_of_length_le (by omega)]; rfl)
end Go.Proofs.Ytpbncindcmjoeaa.First
