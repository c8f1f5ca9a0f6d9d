/- The contract of a mailbox's All (function 11): all that wait, in their order; the box is empty behind it. -/
import Derived.Test.YtpbncindcmjoeaaBox
namespace Go.Proofs.Ytpbncindcmjoeaa.All
open Go.Conc Go.RowKit Go.Proofs.YtpbncindcmjoeaaW.PrintWords Go.Proofs.Ytpbncindcmjoeaa.Comm

/-- What a Take leaves. -/
def Took (b c n : Nat) (l : List Int) (w : World) (e : Ending) (w' : World) : Prop :=
  e = .returned (.tuple #[.int .i64 (l.head?.getD 0), .bool (!l.isEmpty)]) ∧ w.grownBy w' (some c) ∧ Box w' b c n l.tail
theorem take_box {w : World} {b c n : Nat} {l : List Int} (h : Box w b c n l) : Calls Try.prog 13 #[.pointer (some ⟨b, 0, none⟩)] w (Took b c n l w) := by
  obtain ⟨s, r, hc⟩ := h.chan
  have hlt : c < w.heap.size := (Array.getElem?_eq_some_iff.1 hc).1
  cases l with
  | nil =>
    refine (take_none b c n w s r h.box hc).mono ?_
    rintro e w' ⟨rfl, rfl⟩
    exact ⟨rfl, World.grownBy.refl _ _, h⟩
  | cons v l =>
    refine (take_some b c n v l w s r h.box hc).mono ?_
    rintro e w' ⟨rfl, rfl⟩
    exact ⟨rfl, grown_chan _ _ _ _ _ _, box_kept h (grown_chan _ _ _ _ _ _) (heap_setChan _ _ _ _ _ _ _ _ hlt)⟩
/-- What a Put leaves: with room, and without. -/
theorem put_box_room {w : World} {b c n : Nat} {l : List Int} (h : Box w b c n l) (v : Int) (hl : l.length < n) :
    Calls Try.prog 9 #[.pointer (some ⟨b, 0, none⟩), .int .i64 v] w fun e w' => e = .returned (.int .i64 0) ∧ w.grownBy w' (some c) ∧ Box w' b c n (l ++ [v]) := by
  obtain ⟨s, r, hc⟩ := h.chan
  have hlt : c < w.heap.size := (Array.getElem?_eq_some_iff.1 hc).1
  refine (put_room b c n l v w s r h.box hc hl).mono ?_
  rintro e w' ⟨rfl, rfl⟩
  exact ⟨rfl, grown_chan _ _ _ _ _ _, box_kept h (grown_chan _ _ _ _ _ _) (heap_setChan _ _ _ _ _ _ _ _ hlt)⟩
theorem put_box_full {w : World} {b c n : Nat} {l : List Int} (h : Box w b c n l) (v : Int) (hl : n ≤ l.length) :
    Calls Try.prog 9 #[.pointer (some ⟨b, 0, none⟩), .int .i64 v] w fun e w' => e = .returned (.int .i64 8) ∧ w = w' := by
  obtain ⟨s, r, hc⟩ := h.chan
  refine (put_full b c n l v w s r h.box hc hl).mono ?_
  rintro e w' ⟨rfl, rfl⟩
  exact ⟨rfl, rfl⟩

theorem info2 : (Try.prog.info? 2).map (fun i => (i.zero, i.size, i.bytes)) = some (some (.int .i64 0), 1, 8) := by kernel_rfl

/-- A box is kept where other blocks are written. -/
theorem box_other {w w' : World} {b c n : Nat} {l : List Int} (h : Box w b c n l) {row : Option Nat} (hg : w.grownBy w' row) (hb : row ≠ some b) (hc : row ≠ some c) : Box w' b c n l := by
  obtain ⟨s, r, hh⟩ := h.chan
  exact ⟨by rw [hg.block b (Array.getElem?_eq_some_iff.1 h.box).1 (Ne.symm hb)]; exact h.box, s, r, by rw [hg.block c (Array.getElem?_eq_some_iff.1 hh).1 (Ne.symm hc)]; exact hh⟩
theorem box_lt {w : World} {b c n : Nat} {l : List Int} (h : Box w b c n l) : b < w.heap.size ∧ c < w.heap.size := by
  obtain ⟨s, r, hh⟩ := h.chan
  exact ⟨(Array.getElem?_eq_some_iff.1 h.box).1, (Array.getElem?_eq_some_iff.1 hh).1⟩

/-- How many lie in a channel's buffer. -/
def bufLen (w : World) (c : Nat) : Nat := match w.heap[c]? with | some (.chan _ buf _ _ _ _) => buf.size | _ => 0
theorem bufLen_box {w : World} {b c n : Nat} {l : List Int} (h : Box w b c n l) : bufLen w c = l.length := by
  obtain ⟨s, r, hh⟩ := h.chan
  simp [bufLen, hh, chanOf, nums]
def okOf : Value → Nat | .bool true => 1 | _ => 0

/-- What holds at a round's head: behind a Take of the list 'now' the rest is in the box. -/
def Head (w0 : World) (b c n : Nat) (l done now : List Int) (out : Value) (wr : World) : Prop :=
  l = done ++ now ∧ Box wr b c n now.tail ∧ wr.ownsRow w0.heap.size 2 1 out done.length (nums .i64 done) ∧ w0.grownBy wr (some c)
theorem head_start {w w1 : World} {b c n : Nat} {l : List Int} (hg : w.grownBy w1 (some c)) (hb : Box w1 b c n l.tail) : Head w b c n l [] l (.slice none 0 0) w1 :=
  ⟨rfl, hb, own_nil _ _ _ _, hg⟩
/-- All's answer. -/
def Alled (b c n : Nat) (l : List Int) (w : World) (e : Ending) (w' : World) : Prop :=
  ∃ v, e = .returned v ∧ w'.ownsRow w.heap.size 2 1 v l.length (nums .i64 l) ∧ w.grownBy w' (some c) ∧ Box w' b c n []

theorem alled_of {w wr : World} {b c n : Nat} {l done : List Int} {out : Value} (h : Head w b c n l done [] out wr) : Alled b c n l w (.returned out) wr := by
  obtain ⟨rfl, hb, ho, hg⟩ := h
  refine ⟨out, rfl, ?_, hg, hb⟩
  simpa using ho
theorem small {w wr : World} {b c n : Nat} {l done now : List Int} {out : Value} (hl : l.length ≤ 256) (h : Head w b c n l done now out wr) : (done.length + 1) * 8 ≤ 140737488355328 := by
  have := h.1
  subst this
  simp at hl
  omega
/-- Behind the append, ahead of the next Take. -/
def Mid (w0 : World) (b c n : Nat) (l done now : List Int) (x : Int) (out : Value) (wr : World) : Prop :=
  l = done ++ x :: now ∧ Box wr b c n now ∧ wr.ownsRow w0.heap.size 2 1 out (done ++ [x]).length (nums .i64 (done ++ [x])) ∧ w0.grownBy wr (some c)
theorem mid_box {w0 wr : World} {b c n : Nat} {l done now : List Int} {x : Int} {out : Value} (h : Mid w0 b c n l done now x out wr) : Box wr b c n now := h.2.1
theorem own_fresh {v : Value} {B k : Nat} (hk : k < B) (h : ∀ j, v.ownBlock = some j → B ≤ j) : v.ownBlock ≠ some k := fun e => by have := h k e; omega
theorem head_mid {w wr w1 : World} {b c n : Nat} {l done now : List Int} {x : Int} {out v1 : Value} (h0 : Box w b c n l) (h : Head w b c n l done (x :: now) out wr)
    (hown : w1.ownsRow w.heap.size 2 1 v1 (done ++ [x]).length (nums .i64 (done ++ [x]))) (hg : wr.grownBy w1 out.ownBlock) : Mid w b c n l done now x v1 w1 := by
  obtain ⟨hl, hb, ho, hgw⟩ := h
  have hlt := box_lt h0
  have hout := fun j => own_base ho j
  refine ⟨hl, box_other hb hg (fun e => by have := hout _ e; omega) (fun e => by have := hout _ e; omega), hown, ?_⟩
  exact ⟨hg.os.trans hgw.os, hg.tape.trans hgw.tape, hg.output.trans hgw.output, Nat.le_trans hgw.size hg.size, fun k hk hne => by
    rw [hg.block k (Nat.lt_of_lt_of_le hk hgw.size) (fun e => by have := hout _ e.symm; omega)]; exact hgw.block k hk hne⟩
theorem mid_head {w wr w1 : World} {b c n : Nat} {l done now : List Int} {x : Int} {out : Value} (h : Mid w b c n l done now x out wr) (hg : wr.grownBy w1 (some c)) (hb : Box w1 b c n now.tail) : Head w b c n l (done ++ [x]) now out w1 := by
  obtain ⟨hl, hbx, ho, hgw⟩ := h
  refine ⟨by rw [hl]; simp, hb, own_other ho hg ?_, World.grownBy.trans hgw hg⟩
  refine .inr fun e => ?_
  obtain ⟨s, r, hh⟩ := hbx.chan
  rcases ho.2 with ⟨rfl, _⟩ | ⟨g, cap, cur, rfl, _, hc, _⟩
  · simp [Value.ownBlock] at e
  · have : g = c := by simpa [Value.ownBlock] using e
    subst this
    rw [hh] at hc
    simp [chanOf] at hc
theorem less {w wr wr' : World} {b c n : Nat} {l done done' now : List Int} {x : Int} {out out' : Value} (h : Head w b c n l done (x :: now) out wr) (h' : Head w b c n l done' now out' wr') :
    bufLen wr' c + okOf (.bool (!now.isEmpty)) < bufLen wr c + okOf (.bool true) := by
  rw [bufLen_box h.2.1, bufLen_box h'.2.1]
  cases now <;> simp [okOf]
def Rel (w0 : World) (b c n : Nat) (l : List Int) (out v ok : Value) (wr : World) : Prop :=
  ∃ done now, Head w0 b c n l done now out wr ∧ v = .int .i64 (now.head?.getD 0) ∧ ok = .bool (!now.isEmpty)

set_option maxHeartbeats 1000000 in
set_option maxRecDepth 100000 in
theorem all_box {w : World} {b c n : Nat} {l : List Int} (h : Box w b c n l) (hl : l.length ≤ 256) : Calls Try.prog 11 #[.pointer (some ⟨b, 0, none⟩)] w (Alled b c n l w) := by
  have HX := Aside0.mk h
  have HL := Aside0.mk hl
  clear h hl
  go_enter Try.func11, Try.ntmps11
  go_wp2_with (go_at_call 13; (with_reducible refine (take_box HX.out).mono ?_); rintro e w1 ⟨rfl, hg, hb⟩)
  have HH := head_start hg hb
  clear hg hb
  go_loopw [3, 4, 5] (fun out v ok wr => Rel w b c n l out v ok wr) (fun _ _ ok wr => bufLen wr c + okOf ok)
  case atStart => exact ⟨[], l, HH, rfl, rfl⟩
  case round =>
    obtain ⟨done, now, hh, rfl, rfl⟩ := hrel
    cases now with
    | nil =>
      have HD := Aside0.mk hh
      clear hh HH
      simp only [List.isEmpty_nil, Bool.not_true]
      go_wp2
      go_ret
      exact alled_of HD.out
    | cons x now =>
      have HD := Aside0.mk hh
      clear hh HH
      simp only [List.isEmpty_cons, Bool.not_false, List.head?_cons, Option.getD_some]
      go_wp2_with (first
        | (go_at_call 13; (with_reducible refine (take_box (mid_box HN.out)).mono ?_); rintro e w1 ⟨rfl, hg, hb⟩)
        | (at_builtin; refine print_append_num (w0 := wr) w.heap.size rfl (.tmp 17) (.tmp 19) 34 2 .i64 8 rfl Try.underlying34 info2 (by decide) _ done x rfl rfl HD.out.2.2.1 (Below.refl _ _) HD.out.2.2.2.size (small HL.out HD.out) ?_; intro v1 w1 hown _ hg hat; have HN := Aside0.mk (head_mid HX.out HD.out hown hg); clear hown hg hat))
      have hh := mid_head HN.out hg hb
      clear hg hb
      go_roundw
      case rel => exact ⟨done ++ [x], now, hh, rfl, rfl⟩
      case measure => exact less HD.out hh

end Go.Proofs.Ytpbncindcmjoeaa.All
