/- MailFirst (function 5): things come from the first box that has any, till none has. The walk. -/
import Derived.Test.YtpbncindcmjoeaaState
namespace Go.Proofs.Ytpbncindcmjoeaa.Firsts
open Go.Conc Go.RowKit Go.Proofs.YtpbncindcmjoeaaW.PrintWords Go.Proofs.YtpbncindcmjoeaaW.PrintMore Go.Proofs.Ytpbncindcmjoeaa.Comm Go.Proofs.Ytpbncindcmjoeaa.All Go.Proofs.Ytpbncindcmjoeaa.Box Go.Proofs.Ytpbncindcmjoeaa.Awake Go.Proofs.Ytpbncindcmjoeaa.Order Go.Proofs.Ytpbncindcmjoeaa.First Go.Proofs.Ytpbncindcmjoeaa.State
attribute [local go_sem] max2_int min2_int max_two min_two

/-- A row of the list of lists. -/
theorem row_at {w : World} {A : Option Addr} {n : Nat} {ls : List (List Int)} (h : Kd.C (Kd.slice 2 (Kd.int .i64)) w A n ls) (x : Int) (x0 : 0 ≤ x) (hx : x < n) :
    ∃ ad Ar Cr, A = some ad ∧ w.cell? (ad.add x.toNat) = some (.slice Ar (ls.getD x.toNat []).length Cr) ∧ (ls.getD x.toNat []).length ≤ Cr ∧ Kd.C (Kd.int .i64) w Ar (ls.getD x.toNat []).length (ls.getD x.toNat []) := by
  obtain ⟨ad, c, e, hl, ⟨Ar, Cr, hc, hle, hr⟩, hcell⟩ := ReadsRow.get_ h [] x x0 hx
  refine ⟨ad, Ar, Cr, e, ?_, hle, hr⟩
  have := hcell 0 (.slice Ar (ls.getD x.toNat []).length Cr) (by rw [hc]; rfl)
  simpa [Kd.slice] using this
theorem cut_head {t e : TypeId} (ht : Try.prog.underlying t = some (.slice e)) {z : Value} {b : Nat} (hinfo : (Try.prog.info? e).map (fun i => (i.zero, i.size, i.bytes)) = some (some z, 1, b)) (A : Option Addr) (n c m : Nat) (hm : m ≤ c) (W : World) :
    (Instr.slice t (.slice A n c) none (some (.int .i64 (m : Int))) none).run Try.prog W = .ok (.slice A m c) W := by
  obtain ⟨i, hi, hz, hs, hb⟩ := info_parts hinfo
  have hel : Try.prog.elem t = e := by simp [Program.elem, ht]
  have hu : Try.prog.underlying t = some (.slice (Try.prog.elem t)) := by rw [hel]; exact ht
  rw [run_slice_h W t A n c hu .i64 (m : Int) (by omega) (by omega), hel]
  simp only [sizeOf, typeInfo, sliced, Sem.run_bind, Sem.run_pure, Result.andThen]
  have e0 : (A.map fun x => x.add (0 * 1)) = A := by
    cases A with
    | none => rfl
    | some a => simp [Addr.add]
  simp [hi, hs, e0]
theorem info34 : (Try.prog.info? 34).map (fun i => (i.zero, i.size, i.bytes)) = some (some (.slice none 0 0), 1, 24) := by kernel_rfl

/-- At a round's head of the first loop: x boxes are made. -/
def R1 (w0 : World) (q : Nat) (vb vw va i : Value) (W : World) : Prop :=
  ∃ (x : Nat) (bs : List Bx) (ws ks : List Int), i = .int .i64 x ∧ x ≤ q ∧ bs.length = x ∧ ws.length ≤ 20 * x ∧ FSt w0 W vb vw va bs bs ws ks ∧ items 0 bs = ks.zip ws ∧ ks.length = ws.length
/-- Of the second: y things are put into the last box. -/
def R2 (w0 : World) (x b c : Nat) (m : Nat) (bs : List Bx) (vb vw va i : Value) (W : World) : Prop :=
  ∃ (y : Nat) (done ws ks : List Int), i = .int .i64 y ∧ y ≤ m ∧ done.length = y ∧ ws.length ≤ 20 * x + y ∧ FSt w0 W vb vw va bs (bs ++ [some (b, c, done)]) ws ks ∧ items 0 (bs ++ [some (b, c, done)]) = ks.zip ws ∧ ks.length = ws.length
/-- Of the third: what is left to come. -/
def R3 (w0 : World) (rs : List Bx) (ws ks : List Int) (vb vw va i : Value) (W : World) : Prop :=
  ∃ (y : Nat) (bs : List Bx), i = .int .i64 y ∧ y ≤ ws.length ∧ FSt w0 W vb vw va rs bs ws ks ∧ bs.map ptr = rs.map ptr ∧ items 0 bs = (ks.zip ws).drop y

theorem row_cell {W : World} {B n c : Nat} {e : TypeId} {A : Option Addr} {xs : List Int} (h : W.ownsRow B e 1 (.slice A n c) n (nums .i64 xs)) (y : Nat) (hy : y < n) : ∃ ad, A = some ad ∧ W.cell? (ad.add y) = some (.int .i64 (xs.getD y 0)) := by
  obtain ⟨A', c', e', hr⟩ := own_reads h
  cases e'
  obtain ⟨ad, e, hc⟩ := hr.2.2 (by omega)
  exact ⟨ad, e, hc y hy⟩
theorem row_cell' {W : World} {B n c : Nat} {e : TypeId} {ad : Addr} {xs : List Int} (h : W.ownsRow B e 1 (.slice (some ad) n c) n (nums .i64 xs)) (y : Nat) (hy : y < n) {k : Int} (hk : xs.getD y 0 = k) : W.cell? (ad.add y) = some (.int .i64 k) := by
  obtain ⟨ad', e, hc⟩ := row_cell h y hy
  cases e
  rw [hc, hk]
theorem zip_drop {ks ws : List Int} (h : ks.length = ws.length) {y : Nat} (hy : y < ws.length) : (ks.zip ws).drop y = (ks.getD y 0, ws.getD y 0) :: (ks.zip ws).drop (y + 1) := by
  rw [List.drop_eq_getElem_cons (by simp; omega)]
  simp [List.getD_eq_getElem?_getD, hy, show y < ks.length by omega]
theorem zip_done {ks ws : List Int} (h : ks.length = ws.length) {y : Nat} (hy : ¬ y < ws.length) : (ks.zip ws).drop y = [] := List.drop_of_length_le (by simp; omega)
theorem last_box {w0 W : World} {vb vw va : Value} {rs bs : List Bx} {ws ks : List Int} {b c : Nat} {l : List Int} (h : FSt w0 W vb vw va rs (bs ++ [some (b, c, l)]) ws ks) : Box W b c 20 l := (h.bx.lie bs.length b c l (last_at bs _)).1
theorem f_put {w0 W W1 : World} {vb vw va : Value} {rs bs : List Bx} {ws ks : List Int} {b c : Nat} {l : List Int} {v : Int} (h : FSt w0 W vb vw va rs (bs ++ [some (b, c, l)]) ws ks) (hg : W.grownBy W1 (some c)) (hb : Box W1 b c 20 (l ++ [v])) (hl : l.length < 20) :
    FSt w0 W1 vb vw va rs (bs ++ [some (b, c, l ++ [v])]) ws ks := by
  have := f_box h (last_at bs _) hg hb (by simp; omega)
  rwa [set_last] at this
theorem r1_gap {w0 W : World} {q x : Nat} {vb vw va : Value} {bs : List Bx} {ws ks : List Int} (h : FSt w0 W vb vw va (bs ++ [none]) bs ws ks) (he : items 0 bs = ks.zip ws ∧ ks.length = ws.length) (hx : x < q) (hlen : bs.length = x) (hw : ws.length ≤ 20 * x) :
    R1 w0 q vb vw va (.int .i64 ((x : Int) + 1)) W :=
  ⟨x + 1, bs ++ [none], ws, ks, by go_num, by omega, by simp [hlen], by omega, f_gap h, by rw [items_append]; simp [items, he.1], he.2⟩
theorem r1_box {w0 W : World} {q x b c y m : Nat} {vb vw va : Value} {bs : List Bx} {done ws ks : List Int} (h : FSt w0 W vb vw va (bs ++ [some (b, c, done)]) (bs ++ [some (b, c, done)]) ws ks) (he : items 0 (bs ++ [some (b, c, done)]) = ks.zip ws ∧ ks.length = ws.length) (hx : x < q) (hlen : bs.length = x) (hw : ws.length ≤ 20 * x + y) (hy : y ≤ m) (hm : m ≤ 20) :
    R1 w0 q vb vw va (.int .i64 ((x : Int) + 1)) W :=
  ⟨x + 1, _, ws, ks, by go_num, by omega, by simp [hlen], by omega, h, he.1, he.2⟩
theorem r2_start {bs : List Bx} {b c : Nat} {ws ks : List Int} (he : items 0 bs = ks.zip ws ∧ ks.length = ws.length) : items 0 (bs ++ [some (b, c, [])]) = ks.zip ws ∧ ks.length = ws.length :=
  ⟨by rw [items_append]; simp [items, he.1], he.2⟩
theorem r2_step {w0 W : World} {x b c y m : Nat} {v : Int} {vb vw va : Value} {bs : List Bx} {done ws ks : List Int} (h : FSt w0 W vb vw va bs (bs ++ [some (b, c, done ++ [v])]) (ws ++ [v]) (ks ++ [(x : Int)])) (he : items 0 (bs ++ [some (b, c, done)]) = ks.zip ws ∧ ks.length = ws.length) (hd : done.length = y) (hlen : bs.length = x) (hy : y < m) (hw : ws.length ≤ 20 * x + y) :
    R2 w0 x b c m bs vb vw va (.int .i64 ((y : Int) + 1)) W := by
  refine ⟨y + 1, done ++ [v], _, _, by go_num, by omega, by simp [hd], by simp; omega, h, ?_, by simp [he.2]⟩
  have h1 := he.1
  rw [items_append] at h1 ⊢
  rw [List.zip_append he.2, ← h1]
  simp [items, hlen]

set_option maxHeartbeats 8000000 in
set_option maxRecDepth 100000 in
theorem firsts_calls (A0 : Option Addr) (c0 : Nat) (ls : List (List Int)) (A1 : Option Addr) (c1 : Nat) (gs : List Bool) (w : World)
    (hl : ls.length ≤ c0) (hlr : Kd.C (Kd.slice 2 (Kd.int .i64)) w A0 ls.length ls) (hgr : Kd.C Kd.bool w A1 gs.length gs) :
    Calls Try.prog 5 #[.slice A0 ls.length c0, .slice A1 gs.length c1] w fun e w' => e = .returned (.bool true) ∧ Below w.heap.size w w' := by
  have HLR := Aside0.mk hlr
  have HGR := Aside0.mk hgr
  clear hlr hgr
  obtain ⟨q, hq⟩ : ∃ q : Nat, (if (10 : Int) < (ls.length : Int) then 10 else (ls.length : Int)) = (q : Int) := ⟨min ls.length 10, by split <;> omega⟩
  have HQ := Aside0.mk (show q ≤ ls.length ∧ q ≤ 10 by split at hq <;> omega)
  have hcut := fun W => cut_head Try.underlying46 info34 A0 ls.length c0 q (by have := HQ.out; omega) W
  go_enter Try.func5, Try.ntmps5
  go_wp2_with (first
    | (go_at_call 6; (with_reducible refine (awake_calls _).mono ?_); rintro e wa ⟨rfl, hB⟩; have HB := Aside0.mk hB; clear hB))
  go_loopw [5, 6, 7, 31] (fun vb vw va i W => R1 w q vb vw va i W) (fun _ _ _ i _ => q - (intOf i).toNat)
  case atStart => exact ⟨0, [], [], [], rfl, by omega, rfl, by simp, ⟨own_nil _ _ _ _, own_nil _ _ _ _, own_nil _ _ _ _, ⟨fun i b c l h => by simp at h, fun i j b c l b' c' l' _ h => by simp at h⟩, HB.out⟩, rfl, rfl⟩
  case round =>
    clear HB
    obtain ⟨x, bs, ws, ks, rfl, hx, hlen, hwl, hst, heq⟩ := hrel
    have hqb : q ≤ 10 := HQ.out.2
    by_cases hx1 : x < q
    · have ST := Aside0.mk hst
      have HEQ := Aside0.mk heq
      have HWL0 := Aside0.mk hwl
      have HL := Aside0.mk (show bs.length + 1 ≤ 400 by have := HQ.out; omega)
      clear hst heq hwl hcut hq
      have d0 : decide ((x : Int) < (q : Int)) = true := decide_eq_true (by omega)
      obtain ⟨ad, Ar, Cr, e1, hc0, hCr, hxr⟩ := row_at HLR.out (x : Int) (by omega) (by have := HQ.out; omega)
      cases e1
      have hcell := pw_cell_below ST.out.below hc0
      have HXR := Aside0.mk hxr
      clear hc0 hxr
      simp only [Int.toNat_natCast] at hcell
      simp only [Int.toNat_natCast] at HXR hCr
      generalize ls.getD x [] = xs at hcell HXR hCr
      obtain ⟨m, hm⟩ : ∃ m : Nat, (if (20 : Int) < (xs.length : Int) then 20 else (xs.length : Int)) = (m : Int) := ⟨min xs.length 20, by split <;> omega⟩
      have HM := Aside0.mk (show m ≤ xs.length ∧ m ≤ 20 by split at hm <;> omega)
      have hcut := fun W => cut_head Try.underlying34 info2 Ar xs.length Cr m (by have := HM.out; omega) W
      by_cases hg : x < gs.length
      · have d1 : decide ((x : Int) < (gs.length : Int)) = true := decide_eq_true (by omega)
        obtain ⟨adg, eg, hgc⟩ := Kd.at_bool (Kd.C_below HGR.out ST.out.below) (x : Int) (by omega) (by omega)
        cases eg
        simp only [Int.toNat_natCast] at hgc
        cases hgv : rdOf false gs (x : Int) with
        | true =>
          rw [hgv] at hgc
          clear hgv
          go_wp2_with (at_builtin; refine print_append (w0 := wr) w.heap.size rfl (.tmp 51) (.tmp 52) 47 24 (.pointer none) 8 rfl Try.underlying47 info24 rfl (by decide) _ (bs.map ptr) (ptr none) rfl rfl rfl ST.out.pb (Below.refl _ _) ST.out.below.size (by have := HL.out; simp; omega) ?_; intro v1 w1 hown _ hg hat; have N0 := Aside0.mk (f_ptr (x := none) ST.out hown hg); clear hown hg hat; clear ST; have ST := N0; clear N0)
          go_roundw
          case rel => exact r1_gap ST.out HEQ.out hx1 hlen HWL0.out
          case measure => simp [intOf]; omega

        | false =>
          rw [hgv] at hgc
          clear hgv
          go_wp2_with (go_at_call 7; (with_reducible refine (new_box 20 _ (by decide) (by decide)).mono ?_); rintro e w2 ⟨rfl, hb, hB⟩; have N0 := Aside0.mk (f_new ST.out hb hB); clear hb hB; clear ST; have ST := N0; clear N0)
          generalize hbb : wr.heap.size + 1 = b at ST ⊢
          generalize hcc : wr.heap.size = c at ST
          clear hbb hcc
          go_loopw [6, 7, 62] (fun vw va i W => R2 w x b c m bs u5 vw va i W) (fun _ _ i _ => m - (intOf i).toNat)
          case atStart => exact ⟨0, [], ws, ks, rfl, by omega, rfl, by have := HWL0.out; omega, ST.out, r2_start HEQ.out⟩
          case round =>
            clear ST HEQ HL HWL0
            obtain ⟨y, done, ws, ks, rfl, hy, hdl, hwl, hst, heq⟩ := hrel
            have ST := Aside0.mk hst
            have HEQ := Aside0.mk heq
            have HDL := Aside0.mk hdl
            have HWL := Aside0.mk (show ws.length + 1 ≤ 400 ∧ ks.length + 1 ≤ 400 by have := heq.2; have := HM.out; have := HQ.out; omega)
            have HWL0 := Aside0.mk hwl
            have HL := Aside0.mk (show bs.length + 1 ≤ 400 by have := HQ.out; omega)
            clear hst heq hdl
            have hmb : m ≤ 20 := HM.out.2
            by_cases hend2 : y < m
            · have d5 : decide ((y : Int) < (m : Int)) = true := decide_eq_true (by omega)
              obtain ⟨ad2, e2, hy2⟩ := Kd.at_int (Kd.C_below HXR.out ST.out.below) (y : Int) (by omega) (by have := HM.out; omega)
              cases e2
              simp only [Int.toNat_natCast] at hy2
              generalize rd xs (y : Int) = v at hy2
              have HR := Aside0.mk (show done.length < 20 by have := HDL.out; have := HM.out; omega)
              go_wp2_with (first
                | (go_at_call 9; (with_reducible refine (put_box_room (last_box ST.out) _ HR.out).mono ?_); rintro e w4 ⟨rfl, hg, hb⟩; have N0 := Aside0.mk (f_put ST.out hg hb HR.out); clear hg hb; clear ST; have ST := N0; clear N0)
                | (at_builtin; refine print_append_num (w0 := w4) w.heap.size rfl (.tmp 70) (.tmp 72) 34 2 .i64 8 rfl Try.underlying34 info2 (by decide) _ ws _ rfl rfl ST.out.pw (Below.refl _ _) ST.out.below.size (by have := HWL.out; omega) ?_; intro v5 w5 hown _ hg hat; have N0 := Aside0.mk (f_want ST.out hown hg); clear hown hg hat; clear ST; have ST := N0; clear N0)
                | (at_builtin; refine print_append_num (w0 := w5) w.heap.size rfl (.tmp 74) (.tmp 76) 48 3 .i64 8 rfl Try.underlying48 info3 (by decide) _ ks _ rfl rfl ST.out.pa (Below.refl _ _) ST.out.below.size (by have := HWL.out; omega) ?_; intro v6 w6 hown _ hg hat; have N0 := Aside0.mk (f_at ST.out hown hg); clear hown hg hat; clear ST; have ST := N0; clear N0))
              go_roundw
              case rel => exact r2_step ST.out HEQ.out HDL.out hlen hend2 HWL0.out
              case measure => simp [intOf]; omega
            · have d5 : decide ((y : Int) < (m : Int)) = false := decide_eq_false (by omega)
              go_wp2_with (at_builtin; refine print_append (w0 := wr) w.heap.size rfl (.tmp 79) (.tmp 81) 47 24 (.pointer none) 8 rfl Try.underlying47 info24 rfl (by decide) _ (bs.map ptr) (ptr (some (b, c, done))) rfl rfl rfl ST.out.pb (Below.refl _ _) ST.out.below.size (by have := HL.out; simp; omega) ?_; intro v1 w1 hown _ hg hat; have N0 := Aside0.mk (f_ptr (x := some (b, c, done)) ST.out hown hg); clear hown hg hat; clear ST; have ST := N0; clear N0)
              go_roundw
              case rel => exact r1_box ST.out HEQ.out hx1 hlen HWL0.out hy hmb
              case measure => simp [intOf]; omega

      · have d1 : decide ((x : Int) < (gs.length : Int)) = false := decide_eq_false (by omega)
        go_wp2_with (go_at_call 7; (with_reducible refine (new_box 20 _ (by decide) (by decide)).mono ?_); rintro e w2 ⟨rfl, hb, hB⟩; have N0 := Aside0.mk (f_new ST.out hb hB); clear hb hB; clear ST; have ST := N0; clear N0)
        generalize hbb : wr.heap.size + 1 = b at ST ⊢
        generalize hcc : wr.heap.size = c at ST
        clear hbb hcc
        go_loopw [6, 7, 62] (fun vw va i W => R2 w x b c m bs u5 vw va i W) (fun _ _ i _ => m - (intOf i).toNat)
        case atStart => exact ⟨0, [], ws, ks, rfl, by omega, rfl, by have := HWL0.out; omega, ST.out, r2_start HEQ.out⟩
        case round =>
          clear ST HEQ HL HWL0
          obtain ⟨y, done, ws, ks, rfl, hy, hdl, hwl, hst, heq⟩ := hrel
          have ST := Aside0.mk hst
          have HEQ := Aside0.mk heq
          have HDL := Aside0.mk hdl
          have HWL := Aside0.mk (show ws.length + 1 ≤ 400 ∧ ks.length + 1 ≤ 400 by have := heq.2; have := HM.out; have := HQ.out; omega)
          have HWL0 := Aside0.mk hwl
          have HL := Aside0.mk (show bs.length + 1 ≤ 400 by have := HQ.out; omega)
          clear hst heq hdl
          have hmb : m ≤ 20 := HM.out.2
          by_cases hend2 : y < m
          · have d5 : decide ((y : Int) < (m : Int)) = true := decide_eq_true (by omega)
            obtain ⟨ad2, e2, hy2⟩ := Kd.at_int (Kd.C_below HXR.out ST.out.below) (y : Int) (by omega) (by have := HM.out; omega)
            cases e2
            simp only [Int.toNat_natCast] at hy2
            generalize rd xs (y : Int) = v at hy2
            have HR := Aside0.mk (show done.length < 20 by have := HDL.out; have := HM.out; omega)
            go_wp2_with (first
              | (go_at_call 9; (with_reducible refine (put_box_room (last_box ST.out) _ HR.out).mono ?_); rintro e w4 ⟨rfl, hg, hb⟩; have N0 := Aside0.mk (f_put ST.out hg hb HR.out); clear hg hb; clear ST; have ST := N0; clear N0)
              | (at_builtin; refine print_append_num (w0 := w4) w.heap.size rfl (.tmp 70) (.tmp 72) 34 2 .i64 8 rfl Try.underlying34 info2 (by decide) _ ws _ rfl rfl ST.out.pw (Below.refl _ _) ST.out.below.size (by have := HWL.out; omega) ?_; intro v5 w5 hown _ hg hat; have N0 := Aside0.mk (f_want ST.out hown hg); clear hown hg hat; clear ST; have ST := N0; clear N0)
              | (at_builtin; refine print_append_num (w0 := w5) w.heap.size rfl (.tmp 74) (.tmp 76) 48 3 .i64 8 rfl Try.underlying48 info3 (by decide) _ ks _ rfl rfl ST.out.pa (Below.refl _ _) ST.out.below.size (by have := HWL.out; omega) ?_; intro v6 w6 hown _ hg hat; have N0 := Aside0.mk (f_at ST.out hown hg); clear hown hg hat; clear ST; have ST := N0; clear N0))
            go_roundw
            case rel => exact r2_step ST.out HEQ.out HDL.out hlen hend2 HWL0.out
            case measure => simp [intOf]; omega
          · have d5 : decide ((y : Int) < (m : Int)) = false := decide_eq_false (by omega)
            go_wp2_with (at_builtin; refine print_append (w0 := wr) w.heap.size rfl (.tmp 79) (.tmp 81) 47 24 (.pointer none) 8 rfl Try.underlying47 info24 rfl (by decide) _ (bs.map ptr) (ptr (some (b, c, done))) rfl rfl rfl ST.out.pb (Below.refl _ _) ST.out.below.size (by have := HL.out; simp; omega) ?_; intro v1 w1 hown _ hg hat; have N0 := Aside0.mk (f_ptr (x := some (b, c, done)) ST.out hown hg); clear hown hg hat; clear ST; have ST := N0; clear N0)
            go_roundw
            case rel => exact r1_box ST.out HEQ.out hx1 hlen HWL0.out hy hmb
            case measure => simp [intOf]; omega

    · have d0 : decide ((x : Int) < (q : Int)) = false := decide_eq_false (by omega)
      have ST := Aside0.mk hst
      have HEQ := Aside0.mk heq
      have HWB := Aside0.mk (show ws.length ≤ 300 by have := HQ.out; omega)
      clear hst heq hcut hq hwl
      obtain ⟨Aw, cw, rfl⟩ := own_slice ST.out.pw
      obtain ⟨Ak, ck, rfl⟩ := own_slice ST.out.pa
      go_wp2
      go_loopw [86] (fun i W => R3 w bs ws ks u5 (.slice Aw ws.length cw) (.slice Ak ks.length ck) i W) (fun i _ => ws.length - (intOf i).toNat)
      case atStart => exact ⟨0, bs, rfl, by omega, ST.out, rfl, by rw [HEQ.out.1]; rfl⟩
      case round =>
        have HKW := Aside0.mk HEQ.out.2
        clear ST HEQ
        obtain ⟨y, bs', rfl, hy, hst, hp, hi⟩ := hrel
        have ST := Aside0.mk hst
        have HP := Aside0.mk hp
        have hwb : ws.length ≤ 300 := HWB.out
        clear hst hp
        by_cases hend3 : y < ws.length
        · have d6 : decide ((y : Int) < (ws.length : Int)) = true := decide_eq_true (by omega)
          have HI := Aside0.mk (hi.trans (zip_drop HKW.out hend3))
          clear hi
          obtain ⟨adw, rfl, hwc⟩ := row_cell ST.out.pw y hend3
          obtain ⟨adk, rfl, _⟩ := row_cell ST.out.pa y (by have := HKW.out; omega)
          have hky : y < ks.length := by have := HKW.out; omega
          generalize hvv : ws.getD y 0 = v at HI hwc
          generalize hkk : ks.getD y 0 = k at HI
          have HKK := Aside0.mk hkk
          clear hvv hkk
          go_wp2_with (first
            | (go_at_call 17; (with_reducible refine (first_some ST.out HP.out HI.out).mono ?_); rintro e w7 ⟨rfl, bs2, hst2, hp2, hi2⟩; clear ST HP HI; have ST := Aside0.mk hst2; have HP := Aside0.mk hp2; have HI := Aside0.mk hi2; clear hst2 hp2 hi2; have hkc := row_cell' ST.out.pa y hky HKK.out))
          go_roundw
          case rel => exact ⟨y + 1, bs2, by go_num, hend3, ST.out, HP.out, HI.out⟩
          case measure => simp [intOf]; omega
        · have d6 : decide ((y : Int) < (ws.length : Int)) = false := decide_eq_false (by omega)
          have HI := Aside0.mk (hi.trans (zip_done HKW.out hend3))
          clear hi
          go_wp2_with (first
            | (go_at_call 17; (with_reducible refine (first_nil ST.out HP.out HI.out).mono ?_); rintro e w7 ⟨rfl, rfl⟩))
          go_ret
          exact ⟨rfl, ST.out.below⟩

end Go.Proofs.Ytpbncindcmjoeaa.Firsts
