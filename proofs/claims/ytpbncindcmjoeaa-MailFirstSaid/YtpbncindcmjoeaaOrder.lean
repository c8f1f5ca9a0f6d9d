/- MailOrder (function 4): what is put comes out in its order. The walk; the list that came in may be nil or not, and so may the list of takes. -/
import Derived.Test.YtpbncindcmjoeaaAwake
namespace Go.Proofs.Ytpbncindcmjoeaa.Order
open Go.Conc Go.RowKit Go.Proofs.YtpbncindcmjoeaaW.PrintWords Go.Proofs.Ytpbncindcmjoeaa.Comm Go.Proofs.Ytpbncindcmjoeaa.All Go.Proofs.Ytpbncindcmjoeaa.Box Go.Proofs.Ytpbncindcmjoeaa.Awake

theorem take_cons {w : World} {b c n : Nat} {y : Int} {t : List Int} (h : Box w b c n (y :: t)) :
    Calls Try.prog 13 #[.pointer (some ⟨b, 0, none⟩)] w fun e w' => e = .returned (.tuple #[.int .i64 y, .bool true]) ∧ w.grownBy w' (some c) ∧ Box w' b c n t :=
  (take_box h).mono fun _ _ h => h
theorem hyt_box {w : World} {b c n : Nat} {l : List Int} {y : Int} {t : List Int} (h : Box w b c n l) (e : l = y :: t) : Box w b c n (y :: t) := e ▸ h
theorem tk_at {w W : World} {adt : Addr} {tk : List Bool} {x : Int} {bv : Bool} (h : Kd.C Kd.bool w (some adt) tk.length tk) (hb : Below w.heap.size w W) (x0 : 0 ≤ x) (ht : x < (tk.length : Int)) (hv : rdOf false tk x = bv) : W.cell? (adt.add x.toNat) = some (.bool bv) := by
  obtain ⟨ad, e, hc⟩ := Kd.at_bool (Kd.C_below h hb) x x0 ht
  cases e
  rw [hc, hv]
theorem room_full {w : World} {b c n : Nat} {l : List Int} (h : Box w b c n l) (hn : n ≤ 256) (hl : l.length = n) :
    Calls Try.prog 16 #[.pointer (some ⟨b, 0, none⟩)] w fun e w' => e = .returned (.int .i64 0) ∧ Drawn0 w w' := by
  obtain ⟨h1, s, r, h2⟩ := h
  refine (room_box b c n l w s r hn (by omega) h1 h2).mono ?_
  rintro e w' ⟨rfl, hk⟩
  refine ⟨?_, ⟨hk⟩⟩
  have : (n : Int) - l.length = 0 := by omega
  rw [this]

/-- What holds between two steps: the box holds buf, the two lists of the call's own hold ins and outs. -/
structure St (w0 : World) (B b c n : Nat) (W : World) (vi vo : Value) (ins outs buf : List Int) : Prop where
  box : Box W b c n buf
  inn : W.ownsRow B 2 1 vi ins.length (nums .i64 ins)
  out : W.ownsRow B 2 1 vo outs.length (nums .i64 outs)
  apart : vi.ownBlock = none ∨ vi.ownBlock ≠ vo.ownBlock
  below : Below w0.heap.size w0 W
  lb : b < B
  lc : c < B
  hc : w0.heap.size ≤ c
  hB : w0.heap.size ≤ B
  size : B ≤ W.heap.size
section
variable {w0 W W1 : World} {B b c n : Nat} {vi vo v1 : Value} {ins outs buf buf' : List Int}
theorem ne_chan (h : St w0 B b c n W vi vo ins outs buf) : (vi.ownBlock = none ∨ vi.ownBlock ≠ some c) ∧ (vo.ownBlock = none ∨ vo.ownBlock ≠ some c) := by
  have hlc := h.lc
  exact ⟨.inr fun e => by have := own_base h.inn _ e; omega, .inr fun e => by have := own_base h.out _ e; omega⟩
theorem st_chan (h : St w0 B b c n W vi vo ins outs buf) (hg : W.grownBy W1 (some c)) (hb : Box W1 b c n buf') : St w0 B b c n W1 vi vo ins outs buf' :=
  { h with box := hb, inn := own_other h.inn hg (ne_chan h).1, out := own_other h.out hg (ne_chan h).2, below := below_c h.below hg h.hc, size := Nat.le_trans h.size hg.size }
theorem st_draw (h : St w0 B b c n W vi vo ins outs buf) (k : Nat) : St w0 B b c n (W.drewN k) vi vo ins outs buf :=
  have hb : Below W.heap.size W (W.drewN k) := pw_below_drewN (Below.refl _ _) k
  { h with box := box_below h.box hb, inn := pw_own_below h.inn hb, out := pw_own_below h.out hb, below := pw_below_drewN h.below k, size := h.size }
theorem below_row (h : Below w0.heap.size w0 W) (hB : w0.heap.size ≤ B) {row : Option Nat} (hg : W.grownBy W1 row) (hr : ∀ k, row = some k → B ≤ k) : Below w0.heap.size w0 W1 :=
  h.grown hg h.size (fun k hk => by have := hr k hk; omega)
theorem fresh_apart (h : W.ownsRow B 2 1 vo outs.length (nums .i64 outs)) (ha : vi.ownBlock = none ∨ vi.ownBlock ≠ vo.ownBlock) (hat : v1.ownBlock = vi.ownBlock ∨ ∃ b, v1.ownBlock = some b ∧ W.heap.size ≤ b) :
    (v1.ownBlock = none ∨ v1.ownBlock ≠ vo.ownBlock) ∧ (vo.ownBlock = none ∨ vo.ownBlock ≠ v1.ownBlock) := by
  rcases hat with hat | ⟨b, hb, hle⟩
  · rw [hat]
    refine ⟨ha, ?_⟩
    rcases ha with ha | ha
    · cases hv : vo.ownBlock with
      | none => exact .inl rfl
      | some k => exact .inr (by rw [ha]; simp)
    · exact .inr (Ne.symm ha)
  · have hne : vo.ownBlock ≠ some b := fun e => by have := own_lt h _ e; omega
    exact ⟨.inr (by rw [hb]; exact Ne.symm hne), .inr (by rw [hb]; exact hne)⟩
theorem flip (ha : vi.ownBlock = none ∨ vi.ownBlock ≠ vo.ownBlock) : vo.ownBlock = none ∨ vo.ownBlock ≠ vi.ownBlock := by
  rcases ha with ha | ha
  · cases hv : vo.ownBlock with
    | none => exact .inl rfl
    | some k => exact .inr (by rw [ha]; simp)
  · exact .inr (Ne.symm ha)
theorem st_in (h : St w0 B b c n W vi vo ins outs buf) {x : Int} (hown : W1.ownsRow B 2 1 v1 (ins ++ [x]).length (nums .i64 (ins ++ [x]))) (hg : W.grownBy W1 vi.ownBlock) (hat : v1.ownBlock = vi.ownBlock ∨ ∃ b, v1.ownBlock = some b ∧ W.heap.size ≤ b) :
    St w0 B b c n W1 v1 vo (ins ++ [x]) outs buf :=
  have hlb := h.lb
  have hlc := h.lc
  { h with box := box_other h.box hg (fun e => by have := own_base h.inn _ e; omega) (fun e => by have := own_base h.inn _ e; omega), inn := hown,
           out := own_other h.out hg (flip h.apart), apart := (fresh_apart h.out h.apart hat).1, below := below_row h.below h.hB hg (own_base h.inn), size := Nat.le_trans h.size hg.size }
theorem st_out (h : St w0 B b c n W vi vo ins outs buf) {x : Int} (hown : W1.ownsRow B 2 1 v1 (outs ++ [x]).length (nums .i64 (outs ++ [x]))) (hg : W.grownBy W1 vo.ownBlock) (hat : v1.ownBlock = vo.ownBlock ∨ ∃ b, v1.ownBlock = some b ∧ W.heap.size ≤ b) :
    St w0 B b c n W1 vi v1 ins (outs ++ [x]) buf :=
  have hlb := h.lb
  have hlc := h.lc
  { h with box := box_other h.box hg (fun e => by have := own_base h.out _ e; omega) (fun e => by have := own_base h.out _ e; omega), out := hown,
           inn := own_other h.inn hg h.apart, apart := (fresh_apart h.inn (flip h.apart) hat).2, below := below_row h.below h.hB hg (own_base h.out), size := Nat.le_trans h.size hg.size }
end

/-- What holds at a round's head. -/
structure Inv (w0 : World) (B b c n : Nat) (W : World) (vi vo : Value) (x : Int) (ins outs buf : List Int) : Prop where
  st : St w0 B b c n W vi vo ins outs buf
  eq : ins = outs ++ buf
  room : buf.length ≤ n
  len : (ins.length : Int) ≤ x
/-- Behind the last append: both lists read alike. -/
theorem final {w0 W W1 : World} {B b c n : Nat} {vi vo v1 : Value} {ins outs buf : List Int} (h : St w0 B b c n W vi vo ins outs []) (he : ins = outs ++ buf) (hown : W1.ownsRow B 2 1 v1 (outs ++ buf).length (nums .i64 (outs ++ buf))) (hg : W.grownBy W1 vo.ownBlock) :
    Lies W1 v1 ins ∧ Lies W1 vi ins ∧ Below w0.heap.size w0 W1 := by
  rw [← he] at hown
  exact ⟨lies_own hown, lies_own (own_other h.inn hg h.apart), below_row h.below h.hB hg (own_base h.out)⟩
def Rel (w0 : World) (B b c n : Nat) (m : Nat) (vi vo i : Value) (W : World) : Prop :=
  ∃ (x : Int) (ins outs buf : List Int), i = .int .i64 x ∧ 0 ≤ x ∧ x ≤ m ∧ Inv w0 B b c n W vi vo x ins outs buf
/-- All that a Box's All leaves, and the two lists still there. -/
theorem all_st {w0 W : World} {B b c n : Nat} {vi vo : Value} {ins outs buf : List Int} (h : St w0 B b c n W vi vo ins outs buf) (hl : buf.length ≤ 256) :
    Calls Try.prog 11 #[.pointer (some ⟨b, 0, none⟩)] W fun e w' => ∃ v, e = .returned v ∧ Lies w' v buf ∧ St w0 B b c n w' vi vo ins outs [] := by
  refine (all_box h.box hl).mono ?_
  rintro e w' ⟨v, rfl, ho, hg, hb⟩
  exact ⟨v, rfl, lies_own ho, st_chan h hg hb⟩
theorem start {w0 W w1 : World} (h0 : Below w0.heap.size w0 W) {b n : Nat} (hb : b = W.heap.size + 1) (hbx : Box w1 b W.heap.size n []) (h1 : Below W.heap.size W w1) :
    Inv w0 w1.heap.size b W.heap.size n w1 (.slice none 0 0) (.slice none 0 0) 0 [] [] [] :=
  have hl := box_lt hbx
  have hs := h0.size
  have hs1 := h1.size
  { st := { box := hbx, inn := own_nil _ _ _ _, out := own_nil _ _ _ _, apart := .inl rfl, below := h0.trans (h1.mono hs), lb := hl.1, lc := hl.2, hc := hs, hB := by omega, size := Nat.le_refl _ },
    eq := rfl, room := by simp, len := by simp }

theorem rel_room {w0 W : World} {B b c n m : Nat} {vi vo : Value} {ins outs buf : List Int} {v x : Int} (h : St w0 B b c n W vi vo (ins ++ [v]) outs (buf ++ [v])) (he : ins = outs ++ buf) (x0 : 0 ≤ x) (hx : x < (m : Int)) (hl : (ins.length : Int) ≤ x) (_ : buf.length ≤ n) (hr : buf.length < n) :
    Rel w0 B b c n m vi vo (.int .i64 (x + 1)) W :=
  ⟨x + 1, _, _, _, rfl, by omega, by omega, { st := h, eq := by rw [he]; simp, room := by simp; omega, len := by simp; omega }⟩
theorem rel_full {w0 W : World} {B b c n m : Nat} {vi vo : Value} {ins outs buf : List Int} {x : Int} (h : St w0 B b c n W vi vo ins outs buf) (he : ins = outs ++ buf) (x0 : 0 ≤ x) (hx : x < (m : Int)) (hl : (ins.length : Int) ≤ x) (hr : buf.length ≤ n) :
    Rel w0 B b c n m vi vo (.int .i64 (x + 1)) W :=
  ⟨x + 1, _, _, _, rfl, by omega, by omega, { st := h, eq := he, room := hr, len := by omega }⟩
theorem rel_room_take {w0 W : World} {B b c n m : Nat} {vi vo : Value} {ins outs buf t : List Int} {v x y : Int} (h : St w0 B b c n W vi vo (ins ++ [v]) (outs ++ [y]) t) (he : ins = outs ++ buf) (hy : buf ++ [v] = y :: t) (x0 : 0 ≤ x) (hx : x < (m : Int)) (hl : (ins.length : Int) ≤ x) (_ : buf.length ≤ n) (hr : buf.length < n) :
    Rel w0 B b c n m vi vo (.int .i64 (x + 1)) W :=
  ⟨x + 1, _, _, _, rfl, by omega, by omega, { st := h, eq := by rw [he, List.append_assoc, hy]; simp, room := by have := congrArg List.length hy; simp at this; omega, len := by simp; omega }⟩
theorem rel_full_take {w0 W : World} {B b c n m : Nat} {vi vo : Value} {ins outs buf t : List Int} {x y : Int} (h : St w0 B b c n W vi vo ins (outs ++ [y]) t) (he : ins = outs ++ buf) (hy : buf = y :: t) (x0 : 0 ≤ x) (hx : x < (m : Int)) (hl : (ins.length : Int) ≤ x) (hr : buf.length ≤ n) :
    Rel w0 B b c n m vi vo (.int .i64 (x + 1)) W :=
  ⟨x + 1, _, _, _, rfl, by omega, by omega, { st := h, eq := by rw [he, hy]; simp, room := by have := congrArg List.length hy; simp at this; omega, len := by omega }⟩

set_option maxHeartbeats 4000000 in
set_option maxRecDepth 100000 in
theorem order_calls (n : Int) (A0 : Option Addr) (c0 : Nat) (l : List Int) (A1 : Option Addr) (c1 : Nat) (tk : List Bool) (w : World) (n0 : 0 ≤ n) (n1 : n < 256)
    (hl : l.length * 8 ≤ 140737488351232) (hlr : Kd.C (Kd.int .i64) w A0 l.length l) (htr : Kd.C Kd.bool w A1 tk.length tk) :
    Calls Try.prog 4 #[.int .u8 n, .slice A0 l.length c0, .slice A1 tk.length c1] w fun e w' => e = .returned (.bool true) ∧ Below w.heap.size w w' := by
  have HLR := Aside0.mk hlr
  have HTR := Aside0.mk htr
  clear hlr htr
  go_enter Try.func4, Try.ntmps4
  go_wp2_with (first
    | (go_at_call 6; (with_reducible refine (awake_calls _).mono ?_); rintro e wa ⟨rfl, hB⟩; have HB := Aside0.mk hB; clear hB)
    | (go_at_call 7; (with_reducible refine (new_box _ _ (by omega) (by omega)).mono ?_); rintro e w1 ⟨rfl, hb, hB⟩; have HI := Aside0.mk (start HB.out rfl hb hB); clear hb hB HB))
  generalize hB : w1.heap.size = B at HI
  generalize hb : wa.heap.size + 1 = b at HI ⊢
  generalize hc : wa.heap.size = c at HI
  have HN := Aside0.mk (show (1 + n % 40).toNat ≤ 256 by omega)
  have HN1 := Aside0.mk (show 1 ≤ (1 + n % 40).toNat by omega)
  generalize (1 + n % 40).toNat = nn at HI HN HN1
  clear hB hb hc
  go_loopw [9, 10, 29] (fun vi vo i wr => Rel w B b c nn l.length vi vo i wr) (fun _ _ i _ => l.length - (intOf i).toNat)
  case atStart => exact ⟨0, [], [], [], rfl, Int.le_refl _, by omega, HI.out⟩
  case round =>
    clear HI
    obtain ⟨x, ins, outs, buf, rfl, x0, x1, hi⟩ := hrel
    have ST := Aside0.mk hi.st
    have HE := Aside0.mk hi.eq
    have HRM := Aside0.mk hi.room
    have HLN := Aside0.mk hi.len
    have HLO := Aside0.mk (show outs.length + buf.length = ins.length by have := congrArg List.length hi.eq; simp at this; omega)
    clear hi
    by_cases hend : x < (l.length : Int)
    · obtain ⟨ad, e1, hx⟩ := Kd.at_int (Kd.C_below HLR.out (ST.out.below)) x x0 hend
      cases e1
      have d0 : decide (x < (l.length : Int)) = true := decide_eq_true hend
      by_cases h3 : 300 ≤ x
      · have d3 : decide (300 ≤ x) = true := decide_eq_true h3

        go_wp2_with (first
          | (go_at_call 11; (with_reducible refine (all_st ST.out (by have := HRM.out; have := HN.out; omega)).mono ?_); rintro e w6 ⟨va, rfl, ⟨A7, c7, rfl, hc7, hr7⟩, hst⟩; have HVA := Aside0.mk hr7; have HVC := Aside0.mk hc7; clear ST; have ST := Aside0.mk hst; clear hst hc7 hr7)
          | (at_builtin; refine print_append_row (w0 := w6) B rfl (.tmp 68) (.tmp 70) 34 2 .i64 8 rfl Try.underlying34 info2 (by decide) _ outs buf A7 _ c7 rfl rfl ST.out.out (Kd.reads_of_C (d := (0 : Int)) HVA.out) (Below.refl _ _) ST.out.size (by have := HLO.out; have := HLN.out; omega) ?_; intro v7 w7 hown _ hg hat; have HF := Aside0.mk (final ST.out HE.out hown hg); clear hown hg hat)
          | (go_at_call 12; (with_reducible refine (same_lies HF.out.1 HF.out.2.1 (by have := HLN.out; omega)).mono ?_); rintro e w8 ⟨rfl, ⟨nd, rfl⟩⟩))
        go_ret
        exact ⟨rfl, pw_below_drewN HF.out.2.2 _⟩
      · have d3 : decide (300 ≤ x) = false := decide_eq_false h3
        have HL := Aside0.mk (show ins.length + 1 ≤ 400 by have := HLN.out; omega)
        by_cases hroom : buf.length < nn
        · have HR := Aside0.mk hroom
          obtain ⟨y, t, hyt⟩ : ∃ y t, buf ++ [rd l x] = y :: t := by
            cases hq : buf ++ [rd l x] with
            | nil => exact absurd hq (by simp)
            | cons y t => exact ⟨y, t, rfl⟩
          clear hroom
          by_cases ht : x < (tk.length : Int)
          · obtain ⟨adt, e2, hxt⟩ := Kd.at_bool (Kd.C_below HTR.out ST.out.below) x x0 ht
            cases e2
            have d4 : decide (x < (tk.length : Int)) = true := decide_eq_true ht
            cases htk : rdOf false tk x with
            | true =>
              have HTK := Aside0.mk htk
              clear hxt htk
              have HV := Aside0.mk hyt
              clear hyt
              go_wp2_with (first
                | (go_at_call 9; (with_reducible refine (put_box_room ST.out.box _ HR.out).mono ?_); rintro e w2 ⟨rfl, hg, hb⟩; have N0 := Aside0.mk (st_chan ST.out hg hb); clear hg hb; clear ST; have ST := N0; clear N0)
                | (at_builtin; refine print_append_num (w0 := w2) B rfl (.tmp 40) (.tmp 42) 34 2 .i64 8 rfl Try.underlying34 info2 (by decide) _ ins _ rfl rfl ST.out.inn (Below.refl _ _) ST.out.size (by have := HL.out; omega) ?_; intro v1 w4 hown _ hg hat; have N0 := Aside0.mk (st_in ST.out hown hg hat); clear hown hg hat; clear ST; have ST := N0; clear N0; (try (have hxt2 := tk_at HTR.out ST.out.below x0 ht HTK.out)))
                | (go_at_call 13; (with_reducible refine (take_cons (hyt_box ST.out.box HV.out)).mono ?_); rintro e w3 ⟨rfl, hg, hb⟩; have N0 := Aside0.mk (st_chan ST.out hg hb); clear hg hb; clear ST; have ST := N0; clear N0)
                | (at_builtin; refine print_append_num (w0 := w3) B rfl (.tmp 63) (.tmp 65) 34 2 .i64 8 rfl Try.underlying34 info2 (by decide) _ outs _ rfl rfl ST.out.out (Below.refl _ _) ST.out.size (by have := HL.out; have := HLO.out; omega) ?_; intro v5 w5 hown _ hg hat; have N0 := Aside0.mk (st_out ST.out hown hg hat); clear hown hg hat; clear ST; have ST := N0; clear N0))
              go_roundw
              case rel => exact rel_room_take ST.out HE.out HV.out x0 hend HLN.out HRM.out HR.out
              case measure => simp [intOf]; omega
            | false =>
              have HTK := Aside0.mk htk
              clear hxt htk
              clear hyt
              go_wp2_with (first
                | (go_at_call 9; (with_reducible refine (put_box_room ST.out.box _ HR.out).mono ?_); rintro e w2 ⟨rfl, hg, hb⟩; have N0 := Aside0.mk (st_chan ST.out hg hb); clear hg hb; clear ST; have ST := N0; clear N0)
                | (at_builtin; refine print_append_num (w0 := w2) B rfl (.tmp 40) (.tmp 42) 34 2 .i64 8 rfl Try.underlying34 info2 (by decide) _ ins _ rfl rfl ST.out.inn (Below.refl _ _) ST.out.size (by have := HL.out; omega) ?_; intro v1 w4 hown _ hg hat; have N0 := Aside0.mk (st_in ST.out hown hg hat); clear hown hg hat; clear ST; have ST := N0; clear N0; (try (have hxt2 := tk_at HTR.out ST.out.below x0 ht HTK.out))))
              go_roundw
              case rel => exact rel_room ST.out HE.out x0 hend HLN.out HRM.out HR.out
              case measure => simp [intOf]; omega
          · have d4 : decide (x < (tk.length : Int)) = false := decide_eq_false ht
            clear hyt
            go_wp2_with (first
              | (go_at_call 9; (with_reducible refine (put_box_room ST.out.box _ HR.out).mono ?_); rintro e w2 ⟨rfl, hg, hb⟩; have N0 := Aside0.mk (st_chan ST.out hg hb); clear hg hb; clear ST; have ST := N0; clear N0)
              | (at_builtin; refine print_append_num (w0 := w2) B rfl (.tmp 40) (.tmp 42) 34 2 .i64 8 rfl Try.underlying34 info2 (by decide) _ ins _ rfl rfl ST.out.inn (Below.refl _ _) ST.out.size (by have := HL.out; omega) ?_; intro v1 w4 hown _ hg hat; have N0 := Aside0.mk (st_in ST.out hown hg hat); clear hown hg hat; clear ST; have ST := N0; clear N0; (try (have hxt2 := tk_at HTR.out ST.out.below x0 ht HTK.out))))
            go_roundw
            case rel => exact rel_room ST.out HE.out x0 hend HLN.out HRM.out HR.out
            case measure => simp [intOf]; omega
        · have HR := Aside0.mk (show nn ≤ buf.length by omega)
          have HRE := Aside0.mk (show buf.length = nn by have := HRM.out; omega)
          obtain ⟨y, t, hyt⟩ : ∃ y t, buf = y :: t := by
            cases hq : buf with
            | nil => exact absurd hq (by have h1 := HRE.out; have h2 := HN1.out; intro h3; have h4 := congrArg List.length h3; simp at h4; simp [h4] at h1; omega)
            | cons y t => exact ⟨y, t, rfl⟩
          clear hroom
          by_cases ht : x < (tk.length : Int)
          · obtain ⟨adt, e2, hxt⟩ := Kd.at_bool (Kd.C_below HTR.out ST.out.below) x x0 ht
            cases e2
            have d4 : decide (x < (tk.length : Int)) = true := decide_eq_true ht
            cases htk : rdOf false tk x with
            | true =>
              have HTK := Aside0.mk htk
              clear hxt htk
              have HV := Aside0.mk hyt
              clear hyt
              go_wp2_with (first
                | (go_at_call 9; (with_reducible refine (put_box_full ST.out.box _ HR.out).mono ?_); rintro e w2 ⟨rfl, rfl⟩)
                | (go_at_call 16; (with_reducible refine (room_full ST.out.box HN.out HRE.out).mono ?_); rintro e w3 ⟨rfl, ⟨k, rfl⟩⟩; have N0 := Aside0.mk (st_draw ST.out k); clear ST; have ST := N0; clear N0; (try (have hxt2 := tk_at HTR.out ST.out.below x0 ht HTK.out)))
                | (go_at_call 13; (with_reducible refine (take_cons (hyt_box ST.out.box HV.out)).mono ?_); rintro e w3 ⟨rfl, hg, hb⟩; have N0 := Aside0.mk (st_chan ST.out hg hb); clear hg hb; clear ST; have ST := N0; clear N0)
                | (at_builtin; refine print_append_num (w0 := w3) B rfl (.tmp 63) (.tmp 65) 34 2 .i64 8 rfl Try.underlying34 info2 (by decide) _ outs _ rfl rfl ST.out.out (Below.refl _ _) ST.out.size (by have := HL.out; have := HLO.out; omega) ?_; intro v5 w5 hown _ hg hat; have N0 := Aside0.mk (st_out ST.out hown hg hat); clear hown hg hat; clear ST; have ST := N0; clear N0))
              go_roundw
              case rel => exact rel_full_take ST.out HE.out HV.out x0 hend HLN.out HRM.out
              case measure => simp [intOf]; omega
            | false =>
              have HTK := Aside0.mk htk
              clear hxt htk
              clear hyt
              go_wp2_with (first
                | (go_at_call 9; (with_reducible refine (put_box_full ST.out.box _ HR.out).mono ?_); rintro e w2 ⟨rfl, rfl⟩)
                | (go_at_call 16; (with_reducible refine (room_full ST.out.box HN.out HRE.out).mono ?_); rintro e w3 ⟨rfl, ⟨k, rfl⟩⟩; have N0 := Aside0.mk (st_draw ST.out k); clear ST; have ST := N0; clear N0; (try (have hxt2 := tk_at HTR.out ST.out.below x0 ht HTK.out))))
              go_roundw
              case rel => exact rel_full ST.out HE.out x0 hend HLN.out HRM.out
              case measure => simp [intOf]; omega
          · have d4 : decide (x < (tk.length : Int)) = false := decide_eq_false ht
            clear hyt
            go_wp2_with (first
              | (go_at_call 9; (with_reducible refine (put_box_full ST.out.box _ HR.out).mono ?_); rintro e w2 ⟨rfl, rfl⟩)
              | (go_at_call 16; (with_reducible refine (room_full ST.out.box HN.out HRE.out).mono ?_); rintro e w3 ⟨rfl, ⟨k, rfl⟩⟩; have N0 := Aside0.mk (st_draw ST.out k); clear ST; have ST := N0; clear N0; (try (have hxt2 := tk_at HTR.out ST.out.below x0 ht HTK.out))))
            go_roundw
            case rel => exact rel_full ST.out HE.out x0 hend HLN.out HRM.out
            case measure => simp [intOf]; omega
    · have d0 : decide (x < (l.length : Int)) = false := decide_eq_false hend

      go_wp2_with (first
        | (go_at_call 11; (with_reducible refine (all_st ST.out (by have := HRM.out; have := HN.out; omega)).mono ?_); rintro e w6 ⟨va, rfl, ⟨A7, c7, rfl, hc7, hr7⟩, hst⟩; have HVA := Aside0.mk hr7; have HVC := Aside0.mk hc7; clear ST; have ST := Aside0.mk hst; clear hst hc7 hr7)
        | (at_builtin; refine print_append_row (w0 := w6) B rfl (.tmp 68) (.tmp 70) 34 2 .i64 8 rfl Try.underlying34 info2 (by decide) _ outs buf A7 _ c7 rfl rfl ST.out.out (Kd.reads_of_C (d := (0 : Int)) HVA.out) (Below.refl _ _) ST.out.size (by have := HLO.out; have := HLN.out; omega) ?_; intro v7 w7 hown _ hg hat; have HF := Aside0.mk (final ST.out HE.out hown hg); clear hown hg hat)
        | (go_at_call 12; (with_reducible refine (same_lies HF.out.1 HF.out.2.1 (by have := HLN.out; omega)).mono ?_); rintro e w8 ⟨rfl, ⟨nd, rfl⟩⟩))
      go_ret
      exact ⟨rfl, pw_below_drewN HF.out.2.2 _⟩

end Go.Proofs.Ytpbncindcmjoeaa.Order
