/- MailPlays (function 3): every script has the document's answers; a nil box's, too. The walk. -/
import Derived.Test.YtpbncindcmjoeaaRef
namespace Go.Proofs.Ytpbncindcmjoeaa.Plays
open Go.Conc Go.RowKit Go.Proofs.YtpbncindcmjoeaaW.PrintWords Go.Proofs.Ytpbncindcmjoeaa.Comm Go.Proofs.Ytpbncindcmjoeaa.All Go.Proofs.Ytpbncindcmjoeaa.Box Go.Proofs.Ytpbncindcmjoeaa.Awake Go.Proofs.Ytpbncindcmjoeaa.Order Go.Proofs.Ytpbncindcmjoeaa.Ref

/-- The box holds l1, the reference's list is l2. -/
structure PSt (w0 W : World) (B b c rb n : Nat) (A : Option Addr) (m : Nat) (l1 l2 : List Int) : Prop where
  box : Box W b c n l1
  ref : RBox W B rb n A m l2
  below : Below w0.heap.size w0 W
  lb : b < B
  lc : c < B
  hc : w0.heap.size ≤ c
  hr : w0.heap.size ≤ rb
  size : B ≤ W.heap.size
  nb : rb ≠ b
  nc : rb ≠ c
section
variable {w0 W W1 : World} {B b c rb n : Nat} {A A' : Option Addr} {m m' : Nat} {l1 l2 l1' l2' : List Int}
theorem below_at (h : Below w0.heap.size w0 W) {k : Nat} (hk : w0.heap.size ≤ k) (hg : W.grownBy W1 (some k)) : Below w0.heap.size w0 W1 :=
  h.grown hg h.size (fun j hj => by injection hj with hj; omega)
theorem p_chan (h : PSt w0 W B b c rb n A m l1 l2) (hg : W.grownBy W1 (some c)) (hb : Box W1 b c n l1') : PSt w0 W1 B b c rb n A m l1' l2 :=
  have hlc := h.lc
  { h with box := hb, ref := rbox_other h.ref hg (fun e => h.nc (by injection e with e; exact e.symm)) (fun ad e e2 => by have := h.ref.from_ ad e; injection e2; omega), below := below_at h.below h.hc hg, size := Nat.le_trans h.size hg.size }
theorem p_ref (h : PSt w0 W B b c rb n A m l1 l2) (hr : RBox W1 B rb n A' m' l2') (hg : W.grownBy W1 (some rb)) : PSt w0 W1 B b c rb n A' m' l1 l2' :=
  { h with ref := hr, box := box_other h.box hg (fun e => h.nb (by injection e)) (fun e => h.nc (by injection e)), below := below_at h.below h.hr hg, size := Nat.le_trans h.size hg.size }
theorem p_below (h : PSt w0 W B b c rb n A m l1 l2) (hb : Below W.heap.size W W1) : PSt w0 W1 B b c rb n A m l1 l2 :=
  { h with box := box_below h.box hb, ref := rbox_below h.ref hb, below := h.below.trans (hb.mono h.below.size), size := Nat.le_trans h.size hb.size }
theorem p_draw (h : PSt w0 W B b c rb n A m l1 l2) (k : Nat) : PSt w0 (W.drewN k) B b c rb n A m l1 l2 := p_below h (pw_below_drewN (Below.refl _ _) k)
theorem p_lies (h : PSt w0 W B b c rb n A m l1 l2) : Lies W (.slice A l2.length m) l2 := ⟨A, m, rfl, h.ref.cap, Kd.C_of_reads (d := 0) h.ref.reads⟩
theorem p_nil (h : PSt w0 W B b c rb n A m l1 l2) : PSt w0 (W.setCell ⟨rb, 1, none⟩ (.slice none 0 0)) B b c rb n none 0 l1 [] := by
  have hg : W.grownBy (W.setCell ⟨rb, 1, none⟩ (.slice none 0 0)) (some rb) := ⟨rfl, rfl, rfl, by simp [World.setCell], fun k _ hk => Below.heap_setCell _ _ _ _ (fun e => hk (by rw [e]))⟩
  refine p_ref h ⟨?_, by simp, ⟨rfl, by simp, fun h => absurd h (by simp)⟩, (fun ad e => by cases e), h.ref.lb⟩ hg
  have ho := h.ref.obj
  show (W.heap.modify rb _)[rb]? = _
  rw [Array.getElem?_modify, if_pos rfl, ho]
  simp [refObj]
end
theorem p_start {w0 W w1 : World} (h0 : Below w0.heap.size w0 W) {n : Nat} (hbx : Box w1 (W.heap.size + 1) W.heap.size n []) (h1 : Below W.heap.size W w1) :
    PSt w0 (w1.alloc (refObj n (.slice none 0 0))) (w1.heap.size + 1) (W.heap.size + 1) W.heap.size w1.heap.size n none 0 [] [] :=
  have hl := box_lt hbx
  have hs := h0.size
  have hs1 := h1.size
  { box := box_below hbx ((Below.refl _ _).alloc (Nat.le_refl _) _),
    ref := ⟨heap_alloc_new _ _, by simp, ⟨rfl, by simp, fun h => absurd h (by simp)⟩, (fun ad e => by cases e), by omega⟩,
    below := (h0.trans (h1.mono hs)).alloc (by omega) _, lb := by omega, lc := by omega, hc := hs, hr := by omega, size := by simp, nb := by omega, nc := by omega }
theorem take_empty {w : World} {b c n : Nat} (h : Box w b c n []) :
    Calls Try.prog 13 #[.pointer (some ⟨b, 0, none⟩)] w fun e w' => e = .returned (.tuple #[.int .i64 0, .bool false]) ∧ w.grownBy w' (some c) ∧ Box w' b c n [] :=
  (take_box h).mono fun _ _ h => h
theorem all_p {w0 W : World} {B b c rb n : Nat} {A : Option Addr} {m : Nat} {l1 l2 : List Int} (h : PSt w0 W B b c rb n A m l1 l2) (hl : l1.length ≤ 256) :
    Calls Try.prog 11 #[.pointer (some ⟨b, 0, none⟩)] W fun e w' => ∃ A1 c1, e = .returned (.slice A1 l1.length c1) ∧ Lies w' (.slice A1 l1.length c1) l1 ∧ PSt w0 w' B b c rb n A m [] l2 := by
  refine (all_box h.box hl).mono ?_
  rintro e w' ⟨v, rfl, ho, hg, hb⟩
  have hL := lies_own ho
  obtain ⟨A1, c1, rfl, hc1, hr1⟩ := hL
  exact ⟨A1, c1, rfl, ⟨A1, c1, rfl, hc1, hr1⟩, p_chan h hg hb⟩
/-- How much room a box has: for a walk in which the order is drawn. -/
theorem room_at {w0 W : World} {B b c rb n : Nat} {A : Option Addr} {m : Nat} {l1 l2 : List Int} (h : PSt w0 W B b c rb n A m l1 l2) (hn : n ≤ 256) (hl : l1.length ≤ n) (k : Nat) :
    Calls Try.prog 16 #[.pointer (some ⟨b, 0, none⟩)] (W.drewN k) fun e w' => e = .returned (.int .i64 (n - l1.length)) ∧ ∃ j, w' = (W.drewN k).drewN j := by
  obtain ⟨h1, s, r, h2⟩ := (p_draw h k).box
  exact room_box b c n l1 (W.drewN k) s r hn hl h1 h2
theorem len_at {w0 W : World} {B b c rb n : Nat} {A : Option Addr} {m : Nat} {l1 l2 : List Int} (h : PSt w0 W B b c rb n A m l1 l2) (k : Nat) :
    Calls Try.prog 15 #[.pointer (some ⟨b, 0, none⟩)] (W.drewN k) fun e w' => e = .returned (.int .i64 l1.length) ∧ w' = W.drewN k := by
  obtain ⟨h1, s, r, h2⟩ := (p_draw h k).box
  exact len_box b c n l1 (W.drewN k) s r h1 h2

theorem p_pack {w0 W : World} {B b c rb n : Nat} {A : Option Addr} {m : Nat} {l : List Int} (hl : l.length ≤ n) (h : PSt w0 W B b c rb n A m l l) : ∃ A' m' l', l'.length ≤ n ∧ PSt w0 W B b c rb n A' m' l' l' := ⟨A, m, l, hl, h⟩
def PRel (w0 : World) (B b c rb n : Nat) (q : Nat) (i : Value) (W : World) : Prop :=
  ∃ (x : Int) (A : Option Addr) (m : Nat) (l : List Int), i = .int .i64 x ∧ 0 ≤ x ∧ x ≤ q ∧ l.length ≤ n ∧ PSt w0 W B b c rb n A m l l
theorem p_rel {w0 W : World} {B b c rb n : Nat} {A : Option Addr} {m q : Nat} {l : List Int} (h : PSt w0 W B b c rb n A m l l) {x : Int} (x0 : 0 ≤ x) (x1 : x < (q : Int)) (hl : l.length ≤ n) : PRel w0 B b c rb n q (.int .i64 (x + 1)) W :=
  ⟨x + 1, A, m, l, rfl, by omega, by omega, hl, h⟩
def NRel (w0 : World) (q : Nat) (i : Value) (W : World) : Prop := ∃ x : Int, i = .int .i64 x ∧ 0 ≤ x ∧ x ≤ q ∧ Below w0.heap.size w0 W
theorem n_rel {w0 W : World} {q : Nat} (h : Below w0.heap.size w0 W) {x : Int} (x0 : 0 ≤ x) (x1 : x < (q : Int)) : NRel w0 q (.int .i64 (x + 1)) W := ⟨x + 1, rfl, by omega, by omega, h⟩
set_option maxHeartbeats 4000000 in
set_option maxRecDepth 100000 in
theorem all_nil (w : World) : Calls Try.prog 11 #[.pointer none] w fun e w' => e = .returned (.slice none 0 0) ∧ w = w' := by
  go_enter Try.func11, Try.ntmps11
  go_wp2_with (go_at_call 13; (with_reducible refine (Comm.take_nil _).mono ?_); rintro e w1 ⟨rfl, rfl⟩)
  go_loop [3, 5] (fun out ok => out = .slice none 0 0 ∧ ok = .bool false) (fun _ _ => 0)
  case atStart => exact ⟨rfl, rfl⟩
  case round =>
    obtain ⟨rfl, rfl⟩ := hrel
    go_wp2
    go_ret
    exact ⟨rfl, rfl⟩

set_option maxHeartbeats 4000000 in
set_option maxRecDepth 100000 in
theorem plays_nil (n : Int) (A0 : Option Addr) (c0 : Nat) (sc : List Int) (w : World) (hs : sc.length * 1 ≤ 140737488351232) (hsr : Kd.C (Kd.int .i8) w A0 sc.length sc) (hn : n < 1 ∨ 256 < n) :
    Calls Try.prog 3 #[.int .i64 n, .slice A0 sc.length c0] w fun e w' => e = .returned (.bool true) ∧ Below w.heap.size w w' := by
  have HS := Aside0.mk hsr
  clear hsr
  go_enter Try.func3, Try.ntmps3
  go_wp2_with (first
    | (go_at_call 6; (with_reducible refine (awake_calls _).mono ?_); rintro e wa ⟨rfl, hB⟩; have HB := Aside0.mk hB; clear hB)
    | (go_at_call 7; (with_reducible refine (Box.new_bad _ _ hn).mono ?_); rintro e w1 ⟨rfl, rfl⟩)
    | (go_at_call 8; (with_reducible refine (Ref.new_bad _ _ hn).mono ?_); rintro e w1 ⟨rfl, rfl⟩))
  clear hn
  go_loopw [40] (fun i wr => NRel w sc.length i wr) (fun i _ => sc.length - (intOf i).toNat)
  case atStart => exact ⟨0, rfl, Int.le_refl _, by omega, HB.out⟩
  case round =>
    clear HB
    obtain ⟨x, rfl, x0, x1, hb⟩ := hrel
    have HB := Aside0.mk hb
    clear hb
    by_cases hend : x < (sc.length : Int)
    · obtain ⟨ad, e1, hx⟩ := Kd.at_int (Kd.C_below HS.out HB.out) x x0 hend
      cases e1
      generalize rd sc x = o at hx
      have d0 : decide (x < (sc.length : Int)) = true := decide_eq_true hend
      by_cases h3 : 300 ≤ x
      · have d3 : decide (300 ≤ x) = true := decide_eq_true h3
        go_wp2
        go_ret
        exact ⟨rfl, HB.out⟩
      have d3 : decide (300 ≤ x) = false := decide_eq_false h3
      by_cases hp : 0 < o
      · have dp : decide (0 < o) = true := decide_eq_true hp
        go_wp2_with (first
        | (go_at_call 9; (with_reducible refine (Comm.put_nil _ _).mono ?_); rintro e w1 ⟨rfl, rfl⟩)
        | (go_at_call 10; (with_reducible refine (Ref.put_nil _ _).mono ?_); rintro e w1 ⟨rfl, rfl⟩)
        | (go_at_call 11; (with_reducible refine (all_nil _).mono ?_); rintro e w1 ⟨rfl, rfl⟩)
        | (go_at_call 13; (with_reducible refine (Comm.take_nil _).mono ?_); rintro e w1 ⟨rfl, rfl⟩)
        | (go_at_call 14; (with_reducible refine (Ref.take_nil _).mono ?_); rintro e w1 ⟨rfl, rfl⟩)
        | (go_at_call 15; (with_reducible refine (Box.len_nil _).mono ?_); rintro e w1 ⟨rfl, rfl⟩)
        | (go_at_call 16; (with_reducible refine (Box.room_nil _).mono ?_); rintro e w1 ⟨rfl, rfl⟩))
        go_roundw
        case rel => exact n_rel HB.out x0 hend
        case measure => simp [intOf]; omega
      have dp : decide (0 < o) = false := decide_eq_false hp
      by_cases hz : o = 0
      · subst hz
        go_wp2_with (first
        | (go_at_call 9; (with_reducible refine (Comm.put_nil _ _).mono ?_); rintro e w1 ⟨rfl, rfl⟩)
        | (go_at_call 10; (with_reducible refine (Ref.put_nil _ _).mono ?_); rintro e w1 ⟨rfl, rfl⟩)
        | (go_at_call 11; (with_reducible refine (all_nil _).mono ?_); rintro e w1 ⟨rfl, rfl⟩)
        | (go_at_call 13; (with_reducible refine (Comm.take_nil _).mono ?_); rintro e w1 ⟨rfl, rfl⟩)
        | (go_at_call 14; (with_reducible refine (Ref.take_nil _).mono ?_); rintro e w1 ⟨rfl, rfl⟩)
        | (go_at_call 15; (with_reducible refine (Box.len_nil _).mono ?_); rintro e w1 ⟨rfl, rfl⟩)
        | (go_at_call 16; (with_reducible refine (Box.room_nil _).mono ?_); rintro e w1 ⟨rfl, rfl⟩))
        go_roundw
        case rel => exact n_rel HB.out x0 hend
        case measure => simp [intOf]; omega
      · have dz : (o == 0) = false := by rw [beq_eq_false_iff_ne]; exact hz
        go_wp2_with (first
        | (go_at_call 9; (with_reducible refine (Comm.put_nil _ _).mono ?_); rintro e w1 ⟨rfl, rfl⟩)
        | (go_at_call 10; (with_reducible refine (Ref.put_nil _ _).mono ?_); rintro e w1 ⟨rfl, rfl⟩)
        | (go_at_call 11; (with_reducible refine (all_nil _).mono ?_); rintro e w1 ⟨rfl, rfl⟩)
        | (go_at_call 13; (with_reducible refine (Comm.take_nil _).mono ?_); rintro e w1 ⟨rfl, rfl⟩)
        | (go_at_call 14; (with_reducible refine (Ref.take_nil _).mono ?_); rintro e w1 ⟨rfl, rfl⟩)
        | (go_at_call 15; (with_reducible refine (Box.len_nil _).mono ?_); rintro e w1 ⟨rfl, rfl⟩)
        | (go_at_call 16; (with_reducible refine (Box.room_nil _).mono ?_); rintro e w1 ⟨rfl, rfl⟩))
        go_roundw
        case rel => exact n_rel HB.out x0 hend
        case measure => simp [intOf]; omega
    · have d0 : decide (x < (sc.length : Int)) = false := decide_eq_false hend
      go_wp2
      go_ret
      exact ⟨rfl, HB.out⟩
set_option maxHeartbeats 4000000 in
set_option maxRecDepth 100000 in
theorem plays_good (n : Int) (A0 : Option Addr) (c0 : Nat) (sc : List Int) (w : World) (hs : sc.length * 1 ≤ 140737488351232) (hsr : Kd.C (Kd.int .i8) w A0 sc.length sc) (n1 : 1 ≤ n) (n2 : n ≤ 256) :
    Calls Try.prog 3 #[.int .i64 n, .slice A0 sc.length c0] w fun e w' => e = .returned (.bool true) ∧ Below w.heap.size w w' := by
  have HS := Aside0.mk hsr
  clear hsr
  go_enter Try.func3, Try.ntmps3
  go_wp2_with (first
    | (go_at_call 6; (with_reducible refine (awake_calls _).mono ?_); rintro e wa ⟨rfl, hB⟩; have HB := Aside0.mk hB; clear hB)
    | (go_at_call 7; (with_reducible refine (new_box _ _ n1 n2).mono ?_); rintro e w1 ⟨rfl, hb, hB⟩; have HX := Aside0.mk hb; have HX1 := Aside0.mk hB; clear hb hB)
    | (go_at_call 8; (with_reducible refine (Ref.new_good _ _ n1 n2).mono ?_); rintro e w2 ⟨rfl, he⟩; have HE := Aside0.mk he; clear he))
  obtain ⟨nn, rfl⟩ := Int.eq_ofNat_of_zero_le (show 0 ≤ n by omega)
  have ST := Aside0.mk (p_start HB.out HX.out HX1.out)
  simp only [Int.toNat_natCast] at ST
  rw [← HE.out] at ST
  clear HE HX HX1 HB
  have HN := Aside0.mk (show nn ≤ 256 by omega)
  generalize hB : w1.heap.size + 1 = B at ST
  generalize hb : wa.heap.size + 1 = b at ST ⊢
  generalize hc : wa.heap.size = c at ST
  generalize hr : w1.heap.size = rb at ST ⊢
  clear hB hb hc hr n1 n2
  go_loopw [40] (fun i wr => PRel w B b c rb nn sc.length i wr) (fun i _ => sc.length - (intOf i).toNat)
  case atStart => exact ⟨0, _, _, [], rfl, Int.le_refl _, by omega, by simp, ST.out⟩
  case round =>
    clear ST
    obtain ⟨x, A, m, l, rfl, x0, x1, hln, hst⟩ := hrel
    have ST := Aside0.mk hst
    clear hst
    have HLN := Aside0.mk hln
    have HL := Aside0.mk (show l.length ≤ 256 by have := HN.out; omega)
    by_cases hend : x < (sc.length : Int)
    · obtain ⟨ad, e1, hx⟩ := Kd.at_int (Kd.C_below HS.out ST.out.below) x x0 hend
      cases e1
      generalize rd sc x = o at hx
      have d0 : decide (x < (sc.length : Int)) = true := decide_eq_true hend
      by_cases h3 : 300 ≤ x
      · have d3 : decide (300 ≤ x) = true := decide_eq_true h3
        go_wp2
        go_ret
        exact ⟨rfl, ST.out.below⟩
      have d3 : decide (300 ≤ x) = false := decide_eq_false h3
      by_cases hp : 0 < o
      · have dp : decide (0 < o) = true := decide_eq_true hp
        by_cases hroom : l.length < nn
        · have HR := Aside0.mk hroom
          have HRI := Aside0.mk (show (l.length : Int) < (nn : Int) by omega)
          have HNI := Aside0.mk (show (nn : Int) ≤ 256 by have := HN.out; omega)
          clear hroom hln
          go_wp2_with (first
            | (go_at_call 9; (with_reducible refine (put_box_room ST.out.box _ HR.out).mono ?_); rintro e w2 ⟨rfl, hg, hb⟩; have N0 := Aside0.mk (p_chan ST.out hg hb); clear hg hb; clear ST; have ST := N0; clear N0)
            | (go_at_call 10; (with_reducible refine (Ref.put_room ST.out.ref _ HRI.out HNI.out ST.out.size).mono ?_); rintro e w3 ⟨rfl, A2, m2, hr2, hg⟩; have N0 := Aside0.mk (p_ref ST.out hr2 hg); clear hr2 hg; clear ST; have ST := N0; clear N0))
          obtain ⟨A', m', l', hl', hst'⟩ := p_pack (by have := HR.out; simp; omega) (ST.out)
          clear ST
          obtain ⟨q0, q1, qf⟩ := rbox_cells hst'.ref
          have HF := Aside0.mk hst'
          have HLF := Aside0.mk hl'
          have hbig : (l'.length : Int) ≤ 256 := by have := HN.out; omega
          have hbig2 : (nn : Int) ≤ 256 := by have := HN.out; omega
          clear hst' hl'
          go_quiet (first | (go_at_call 15; refine Calls.quiet_of_same (len_at HF.out _)) | (go_at_call 16; refine Calls.quiet_of (room_at HF.out HN.out HLF.out _)))
          go_wp2
          go_roundw
          case rel => exact p_rel (p_draw HF.out _) x0 hend HLF.out
          case measure => simp [intOf]; omega

        · have HR := Aside0.mk (show nn ≤ l.length by omega)
          have HRI := Aside0.mk (show (l.length : Int) = (nn : Int) by omega)
          clear hroom hln
          go_wp2_with (first
            | (go_at_call 9; (with_reducible refine (put_box_full ST.out.box _ HR.out).mono ?_); rintro e w2 ⟨rfl, rfl⟩)
            | (go_at_call 10; (with_reducible refine (Ref.put_full ST.out.ref _ HRI.out).mono ?_); rintro e w3 ⟨rfl, hd⟩; have N0 := Aside0.mk (p_below ST.out hd.below); clear hd; clear ST; have ST := N0; clear N0))
          obtain ⟨A', m', l', hl', hst'⟩ := p_pack (HLN.out) (ST.out)
          clear ST
          obtain ⟨q0, q1, qf⟩ := rbox_cells hst'.ref
          have HF := Aside0.mk hst'
          have HLF := Aside0.mk hl'
          have hbig : (l'.length : Int) ≤ 256 := by have := HN.out; omega
          have hbig2 : (nn : Int) ≤ 256 := by have := HN.out; omega
          clear hst' hl'
          go_quiet (first | (go_at_call 15; refine Calls.quiet_of_same (len_at HF.out _)) | (go_at_call 16; refine Calls.quiet_of (room_at HF.out HN.out HLF.out _)))
          go_wp2
          go_roundw
          case rel => exact p_rel (p_draw HF.out _) x0 hend HLF.out
          case measure => simp [intOf]; omega

      have dp : decide (0 < o) = false := decide_eq_false hp
      by_cases hz : o = 0
      · subst hz
        clear hln
        go_wp2_with (first
          | (go_at_call 11; (with_reducible refine (all_p ST.out HL.out).mono ?_); rintro e w2 ⟨A1, c1, rfl, hl1, hst⟩; have HLS := Aside0.mk hl1; clear ST; have ST := Aside0.mk hst; clear hl1 hst; obtain ⟨q0, q1, qf⟩ := rbox_cells ST.out.ref)
          | (go_at_call 12; (with_reducible refine (same_lies HLS.out (p_lies ST.out) (by have := HL.out; omega)).mono ?_); rintro e w3 ⟨rfl, hd⟩; have N0 := Aside0.mk (p_below ST.out hd.below); clear hd q0 q1 qf; clear ST; have ST := N0; clear N0; obtain ⟨q0, q1, qf⟩ := rbox_cells ST.out.ref))
        obtain ⟨A', m', l', hl', hst'⟩ := p_pack (by simp) (p_nil ST.out)
        clear ST q0 q1 qf HLS
        obtain ⟨q0, q1, qf⟩ := rbox_cells hst'.ref
        have HF := Aside0.mk hst'
        have HLF := Aside0.mk hl'
        have hbig : (l'.length : Int) ≤ 256 := by have := HN.out; omega
        have hbig2 : (nn : Int) ≤ 256 := by have := HN.out; omega
        clear hst' hl'
        go_quiet (first | (go_at_call 15; refine Calls.quiet_of_same (len_at HF.out _)) | (go_at_call 16; refine Calls.quiet_of (room_at HF.out HN.out HLF.out _)))
        go_wp2
        go_roundw
        case rel => exact p_rel (p_draw HF.out _) x0 hend HLF.out
        case measure => simp [intOf]; omega

      · have dz : (o == 0) = false := by rw [beq_eq_false_iff_ne]; exact hz
        cases l with
        | nil =>
          clear hln
          go_wp2_with (first
            | (go_at_call 13; (with_reducible refine (take_empty ST.out.box).mono ?_); rintro e w2 ⟨rfl, hg, hb⟩; have N0 := Aside0.mk (p_chan ST.out hg hb); clear hg hb; clear ST; have ST := N0; clear N0)
            | (go_at_call 14; (with_reducible refine (Ref.take_none ST.out.ref).mono ?_); rintro e w3 ⟨rfl, rfl⟩))
          obtain ⟨A', m', l', hl', hst'⟩ := p_pack (by simp) (ST.out)
          clear ST
          obtain ⟨q0, q1, qf⟩ := rbox_cells hst'.ref
          have HF := Aside0.mk hst'
          have HLF := Aside0.mk hl'
          have hbig : (l'.length : Int) ≤ 256 := by have := HN.out; omega
          have hbig2 : (nn : Int) ≤ 256 := by have := HN.out; omega
          clear hst' hl'
          go_quiet (first | (go_at_call 15; refine Calls.quiet_of_same (len_at HF.out _)) | (go_at_call 16; refine Calls.quiet_of (room_at HF.out HN.out HLF.out _)))
          go_wp2
          go_roundw
          case rel => exact p_rel (p_draw HF.out _) x0 hend HLF.out
          case measure => simp [intOf]; omega

        | cons y l =>
          have HL := Aside0.mk (show l.length ≤ 256 by have := HL.out; simp at this; omega)
          clear hln
          go_wp2_with (first
            | (go_at_call 13; (with_reducible refine (take_cons ST.out.box).mono ?_); rintro e w2 ⟨rfl, hg, hb⟩; have N0 := Aside0.mk (p_chan ST.out hg hb); clear hg hb; clear ST; have ST := N0; clear N0)
            | (go_at_call 14; (with_reducible refine (Ref.take_some ST.out.ref HL.out).mono ?_); rintro e w3 ⟨rfl, A2, m2, hr2, hg⟩; have N0 := Aside0.mk (p_ref ST.out hr2 hg); clear hr2 hg; clear ST; have ST := N0; clear N0))
          obtain ⟨A', m', l', hl', hst'⟩ := p_pack (by have := HLN.out; simp at this; omega) (ST.out)
          clear ST
          obtain ⟨q0, q1, qf⟩ := rbox_cells hst'.ref
          have HF := Aside0.mk hst'
          have HLF := Aside0.mk hl'
          have hbig : (l'.length : Int) ≤ 256 := by have := HN.out; omega
          have hbig2 : (nn : Int) ≤ 256 := by have := HN.out; omega
          clear hst' hl'
          go_quiet (first | (go_at_call 15; refine Calls.quiet_of_same (len_at HF.out _)) | (go_at_call 16; refine Calls.quiet_of (room_at HF.out HN.out HLF.out _)))
          go_wp2
          go_roundw
          case rel => exact p_rel (p_draw HF.out _) x0 hend HLF.out
          case measure => simp [intOf]; omega

    · have d0 : decide (x < (sc.length : Int)) = false := decide_eq_false hend
      go_wp2
      go_ret
      exact ⟨rfl, ST.out.below⟩

theorem plays_calls (n : Int) (A0 : Option Addr) (c0 : Nat) (sc : List Int) (w : World) (hs : sc.length * 1 ≤ 140737488351232) (hsr : Kd.C (Kd.int .i8) w A0 sc.length sc) :
    Calls Try.prog 3 #[.int .i64 n, .slice A0 sc.length c0] w fun e w' => e = .returned (.bool true) ∧ Below w.heap.size w w' := by
  by_cases h : n < 1 ∨ 256 < n
  · exact plays_nil n A0 c0 sc w hs hsr h
  · exact plays_good n A0 c0 sc w hs hsr (by omega) (by omega)

end Go.Proofs.Ytpbncindcmjoeaa.Plays
