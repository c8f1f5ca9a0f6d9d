/- SlotsApart (function 5) answers true: whatever is freed and taken, each ID that is taken was never taken before. The walk; no conditions. -/
import Derived.Test.YtehfbnpibimmiaaInv
import Derived.Maps.Own
import Derived.Maps.Views
namespace Go.Proofs.Ytehfbnpibimmiaa.Apart
open Go.RowKit Go.Proofs.YtehfbnpibimmiaaW.PrintWords Go.Proofs.YtehfbnpibimmiaaW.PrintLast Go.Proofs.YtehfbnpibimmiaaW.PrintMore Go.Proofs.Ytehfbnpibimmiaa.Lie Go.Proofs.Ytehfbnpibimmiaa.Use Go.Proofs.Ytehfbnpibimmiaa.Take Go.Proofs.Ytehfbnpibimmiaa.Live Go.Proofs.Ytehfbnpibimmiaa.Free Go.Proofs.Ytehfbnpibimmiaa.Awake Go.Proofs.Ytehfbnpibimmiaa.List Go.Proofs.Ytehfbnpibimmiaa.Inv

/-! ### the set of what was taken -/
noncomputable abbrev R : Value → Option (DataW Unit × List MemPlace) := plainElem Try.prog 4
noncomputable def SD : List Int → DataW Unit
  | [] => .map []
  | id :: S => (SD S).put (.int .u32 id) (.lit (.bool true))
theorem keys : Maps.Keyed Try.prog 23 := Maps.int_keyed Try.underlying23
theorem absent : ∀ (S : List Int) (id : Int), id ∉ S → (SD S).atKey (.int .u32 id) (.lit (.bool false)) = .lit (.bool false)
  | [], _, _ => rfl
  | x :: S, id, h => by
    have hne : id ≠ x := fun e => h (by rw [e]; simp)
    unfold SD
    rw [Maps.atKey_put_other (by intro e; injection e with _ e; exact hne e)]
    exact absent S id (fun hin => h (List.mem_cons_of_mem _ hin))
def Seen (w : World) (mb : Nat) (S : List Int) : Prop := w.ownsMap Try.prog 23 R mb S.length (SD S)
theorem seen_lookup {w : World} {mb : Nat} {S : List Int} (h : Seen w mb S) {id : Int} (i0 : 0 ≤ id) (i1 : id < 4294967296) (hn : id ∉ S) : (Instr.lookup 40 (.map (some mb)) (.int .u32 id) false).run Try.prog w = .ok (.bool false) w := by
  have hw : (Lit.int .u32 id).wf = true := by
    simp [Lit.wf, IntKind.min, IntKind.max, IntKind.signed, IntKind.bits]; omega
  obtain ⟨i, hi, hz, _, _⟩ := info_parts info4
  obtain ⟨v, ps, hrun, hv⟩ := World.ownsMap.lookup h keys Try.underlying40 (z := .bool false) (by simp [zeroValue, typeInfo, hi, hz]) (zd := .lit (.bool false)) (zp := []) (plainElem_bool Try.underlying4 false) (Maps.keyOf_int_mk Try.underlying23 hw)
  rw [absent S id hn] at hv
  have e : v = .bool false := by
    unfold R plainElem at hv
    rw [Try.underlying4] at hv
    cases v with
    | bool q => simp at hv; rw [hv.1]
    | _ => simp at hv
  rw [e] at hrun
  exact hrun
theorem seen_kept {w w1 : World} {mb : Nat} {S : List Int} {T : Nat → Prop} (h : Seen w mb S) (ht : Turns T w w1) (hT : ¬ T mb) : Seen w1 mb S := by
  obtain ⟨es, clock, hb, F, hs, hD⟩ := h
  exact ⟨es, clock, (ht.block mb (Array.getElem?_eq_some_iff.1 hb).1 hT).trans hb, F, hs, hD⟩
theorem seen_below {w w1 : World} {mb : Nat} {S : List Int} (h : Seen w mb S) (hb : Below w.heap.size w w1) : Seen w1 mb S := seen_kept h (T := fun _ => False) (Turns.of_below hb) id
theorem seen_own {w : World} {mb B sb gb ub : Nat} {fv : Value} {m : M} {S : List Int} (h : Seen w mb S) (hl : Lies w B sb gb ub fv m) : ¬ Own sb gb ub fv mb := by
  obtain ⟨es, clock, hb, _⟩ := h
  rintro (e | e | e | e)
  · subst e; have := hl.obj; rw [hb] at this; cases this
  · subst e; have := hl.gen; rw [hb] at this; cases this
  · subst e; have := hl.used; rw [hb] at this; cases this
  · obtain ⟨cs, hc⟩ := own_typed hl.free mb e
    rw [hb] at hc; cases hc

/-! ### what holds at a round's head -/
structure ASt (w0 W : World) (sb gb ub mb : Nat) (fv : Value) (m : M) (S : List Int) (x : Int) : Prop where
  on : On w0 W sb gb ub fv m
  inv : Inv m
  seen : Seen W mb S
  old : ∀ id ∈ S, id % 1024 < m.fresh ∧ id / 1024 ≤ m.g (id % 1024).toNat ∧ 0 ≤ id
  hm : w0.heap.size ≤ mb
  cnt : -x ≤ m.count ∧ m.count ≤ x
  fl : (m.free.length : Int) ≤ x
  sl : (S.length : Int) ≤ x
def ARel (w0 : World) (sb gb ub mb : Nat) (q : Nat) (i : Value) (W : World) : Prop :=
  ∃ (x : Int) (fv : Value) (m : M) (S : List Int), i = .int .i64 x ∧ 0 ≤ x ∧ x ≤ q ∧ ASt w0 W sb gb ub mb fv m S x
section
variable {w0 W W1 : World} {sb gb ub mb : Nat} {fv fv' : Value} {m m' : M} {S : List Int} {x : Int}
theorem a_below (h : ASt w0 W sb gb ub mb fv m S x) (hb : Below W.heap.size W W1) : ASt w0 W1 sb gb ub mb fv m S x :=
  { h with on := on_below h.on hb, seen := seen_below h.seen hb }
theorem a_drawn (h : ASt w0 W sb gb ub mb fv m S x) (hd : Drawn0 W W1) : ASt w0 W1 sb gb ub mb fv m S x := a_below h hd.below
end

section
variable {w0 W W1 W2 : World} {sb gb ub mb : Nat} {fv fv' : Value} {m m' : M} {S : List Int} {x : Int}
/-- Behind a Take that gave id: what the map's store asks, and what it leaves. -/
structure Taken (w0 W : World) (sb gb ub mb : Nat) (fv : Value) (m : M) (S : List Int) (x : Int) (id : Int) : Prop where
  st : ASt w0 W sb gb ub mb fv m S x
  i0 : 0 ≤ id
  i1 : id < 4294967296
  new : id ∉ S
  live : m.live id = true
  old : id % 1024 < m.fresh ∧ id / 1024 ≤ m.g (id % 1024).toNat
theorem taken_fresh (h : ASt w0 W sb gb ub mb fv m S x) (hf : m.free = []) (hn : m.fresh < m.gen.length) (ho : On w0 W1 sb gb ub fv m.takeFresh) (ht : Turns (Own sb gb ub fv) W W1) : Taken w0 W1 sb gb ub mb fv m.takeFresh S (x + 1) (m.first * 1024 + m.fresh) := by
  obtain ⟨f, hfr⟩ := Int.eq_ofNat_of_zero_le h.inv.fr.1
  have hp := h.inv.pos
  have hb := h.inv.big
  have hi := inv_fresh h.inv hf hn
  have hfn : m.fresh.toNat = f := by omega
  have hu : m.takeFresh.u f = true := by rw [u_fresh h.inv hn, hfn, if_pos rfl]
  have hg : m.takeFresh.g f = m.first := by rw [g_fresh h.inv hn, hfn, if_pos rfl]
  have hl := live_of hi hu
  rw [hg] at hl
  have e1 : (m.first * 1024 + m.fresh) % 1024 = f := by omega
  have e2 : (m.first * 1024 + m.fresh) / 1024 = m.first := by omega
  have hc : m.takeFresh.count = m.count + 1 := rfl
  have hcnt := h.cnt
  have hfl := h.fl
  have hsl := h.sl
  have hfe : m.takeFresh.fresh = m.fresh + 1 := rfl
  refine ⟨⟨ho, hi, seen_kept h.seen ht (seen_own h.seen h.on.lies), fun id hid => ?_, h.hm, by omega, by show (m.free.length : Int) ≤ _; omega, by omega⟩, by omega, by omega, fun hin => ?_, by rw [hfr]; exact hl.1, ?_⟩
  · obtain ⟨o1, o2, o3⟩ := h.old id hid
    rw [g_fresh h.inv hn, if_neg (by omega)]
    exact ⟨by omega, o2, o3⟩
  · have := (h.old _ hin).1
    omega
  · rw [e1, e2, Int.toNat_natCast, hg, hfe]
    omega
theorem taken_free (h : ASt w0 W sb gb ub mb fv m S x) {fs : List Int} {s : Nat} (hf : m.free = fs ++ [(s : Int)]) (ho : On w0 W1 sb gb ub fv' (m.takeFree fs s)) (ht : Turns (Own sb gb ub fv) W W1) : Taken w0 W1 sb gb ub mb fv' (m.takeFree fs s) S (x + 1) ((m.g s + 1) * 1024 + s) := by
  obtain ⟨s', e, h1, h2, h3, h4, h5, h6⟩ := last_ok h.inv hf
  have : s' = s := by omega
  subst this
  have hb := h.inv.big
  have hi := inv_free h.inv hf
  have hu : (m.takeFree fs s').u s' = true := by rw [u_free h.inv.ulen h2, if_pos rfl]
  have hg : (m.takeFree fs s').g s' = m.g s' + 1 := by rw [g_free h2, if_pos rfl]
  have hl := live_of hi hu
  rw [hg] at hl
  have hc : (m.takeFree fs s').count = m.count + 1 := rfl
  have hcnt := h.cnt
  have hfl := h.fl
  have hsl := h.sl
  have hfll : fs.length + 1 = m.free.length := by rw [hf]; simp
  have hfe : (m.takeFree fs s').fresh = m.fresh := rfl
  refine ⟨⟨ho, hi, seen_kept h.seen ht (seen_own h.seen h.on.lies), fun id hid => ?_, h.hm, by omega, by show (fs.length : Int) ≤ _; omega, by omega⟩, hl.2.1, hl.2.2.1, fun hin => ?_, hl.1, ?_⟩
  · obtain ⟨o1, o2, o3⟩ := h.old id hid
    rw [g_free h2, hfe]
    refine ⟨o1, ?_, o3⟩
    split
    · rename_i e; rw [e] at o2; omega
    · exact o2
  · have := h.old _ hin
    rw [hl.2.2.2.1, hl.2.2.2.2.1, Int.toNat_natCast] at this
    omega
  · rw [hl.2.2.2.1, hl.2.2.2.2.1, Int.toNat_natCast, hg, hfe]
    omega
/-- The map's store. -/
theorem put_done {id : Int} (h : Taken w0 W sb gb ub mb fv m S x id) (hsl : (S.length : Int) + 1 ≤ x) (hs : W1.ownsMap Try.prog 23 R mb (S.length + 1) ((SD S).put (.int .u32 id) (.lit (.bool true)))) (hg : W.grownBy W1 (some mb)) : ASt w0 W1 sb gb ub mb fv m (id :: S) x := by
  have hst := h.st
  have ht : Turns (fun k => k = mb) W W1 := ⟨hg.os, hg.tape, hg.output, hg.size, fun k hk hne => hg.block k hk (fun e => hne (by injection e))⟩
  have hne : ∀ k, Own sb gb ub fv k → ¬ k = mb := fun k hk e => seen_own hst.seen hst.on.lies (e ▸ hk)
  refine { hst with on := ⟨lies_turns hst.on.lies ht hne, Turns.below hst.on.below ht (fun i hi => by rw [hi]; exact hst.hm)⟩, seen := hs, old := fun i hi => ?_, sl := by simp; omega }
  rcases List.mem_cons.1 hi with rfl | hi
  · exact ⟨h.old.1, h.old.2, h.i0⟩
  · exact hst.old i hi
/-- A Free of one that is in use. -/
theorem freed (h : ASt w0 W sb gb ub mb fv m S x) {s : Nat} (hu : m.u s = true) (hgn : m.g s < 4194303) (ho : On w0 W1 sb gb ub fv' (m.unuseFree s)) (ht : Turns (Own sb gb ub fv) W W1) : ASt w0 W1 sb gb ub mb fv' (m.unuseFree s) S (x + 1) :=
  have hcnt := h.cnt
  have hfl := h.fl
  have hsl := h.sl
  have hc : (m.unuseFree s).count = m.count - 1 := rfl
  { on := ho, inv := inv_unuseFree h.inv hu hgn, seen := seen_kept h.seen ht (seen_own h.seen h.on.lies), old := h.old, hm := h.hm, cnt := by omega, fl := by show ((m.free ++ [(s : Int)]).length : Int) ≤ _; simp; omega, sl := by omega }
theorem freed_worn (h : ASt w0 W sb gb ub mb fv m S x) {s : Nat} (hu : m.u s = true) (hgn : ¬ m.g s < 4194303) (hl : Lies W1 w0.heap.size sb gb ub fv (m.unuse s)) (ht : Turns (Own sb gb ub fv) W W1) : ASt w0 W1 sb gb ub mb fv (m.unuse s) S (x + 1) :=
  have hcnt := h.cnt
  have hfl := h.fl
  have hsl := h.sl
  have hc : (m.unuse s).count = m.count - 1 := rfl
  { on := on_turns h.on hl ht, inv := inv_unuse h.inv hu hgn, seen := seen_kept h.seen ht (seen_own h.seen h.on.lies), old := h.old, hm := h.hm, cnt := by omega, fl := by show (m.free.length : Int) ≤ _; omega, sl := by omega }
theorem a_more (h : ASt w0 W sb gb ub mb fv m S x) : ASt w0 W sb gb ub mb fv m S (x + 1) :=
  have hcnt := h.cnt
  have hfl := h.fl
  have hsl := h.sl
  { h with cnt := by omega, fl := by omega, sl := by omega }
end
/-! ### the walk -/
theorem list_is (l : List Int) {w : World} {B sb gb ub : Nat} {fv : Value} {m : M} (h : Lies w B sb gb ub fv m) (hi : Inv m) (hl : m.ids m.gen.length = l) :
    Calls Try.prog 19 #[.pointer (some ⟨sb, 0, none⟩)] w fun e w' => ∃ A, e = .returned (.slice A l.length l.length) ∧ Kd.C (Kd.int .u32) w' A l.length l ∧ Below w.heap.size w w' := by
  subst hl
  exact list_calls h hi.ulen hi.big (used_gen hi)
theorem room_is (x : Int) {w : World} {B sb gb ub : Nat} {fv : Value} {m : M} (h : Lies w B sb gb ub fv m) (hb : m.gen.length ≤ 1024) (hf : m.free.length ≤ 100000) (f0 : 0 ≤ m.fresh) (f1 : m.fresh ≤ 100000) (hx : (m.free.length : Int) + m.gen.length - m.fresh = x) :
    Calls Try.prog 17 #[.pointer (some ⟨sb, 0, none⟩)] w fun e w' => e = .returned (.int .i64 x) ∧ Drawn0 w w' := by
  subst hx; exact room_calls h hb hf f0 f1
theorem rd_mem {l : List Int} {y : Int} (y0 : 0 ≤ y) (h : y < l.length) : rd l y ∈ l := by
  obtain ⟨k, rfl⟩ := Int.eq_ofNat_of_zero_le y0
  have hk : k < l.length := by omega
  have : rd l (k : Int) = l[k] := by simp [rd, hk]
  rw [this]
  exact List.getElem_mem hk
theorem a_rel {w0 W : World} {sb gb ub mb q : Nat} {fv : Value} {m : M} {S : List Int} {x : Int} (h : ASt w0 W sb gb ub mb fv m S (x + 1)) (x0 : 0 ≤ x) (hx : x < q) : ARel w0 sb gb ub mb q (.int .i64 (x + 1)) W := ⟨x + 1, fv, m, S, rfl, by omega, by omega, h⟩
theorem key_of {id : Int} (i0 : 0 ≤ id) (i1 : id < 4294967296) : keyOf Try.prog 23 (.int .u32 id) = some (.int .u32 id) := Maps.keyOf_int_mk Try.underlying23 (by simp [Lit.wf, IntKind.min, IntKind.max, IntKind.signed, IntKind.bits]; omega)
theorem len_ok {n : Nat} (h : (n : Int) ≤ 1000) : n < maxLen := by unfold maxLen; omega
/-- The Free of the round: one ID of the list. -/
theorem free_is {w0 w : World} {sb gb ub mb : Nat} {fv : Value} {m : M} {S : List Int} {x : Int} (h : ASt w0 w sb gb ub mb fv m S x) (x1 : x ≤ 200) {id : Int} (hid : id ∈ m.ids m.gen.length) :
    Calls Try.prog 16 #[.pointer (some ⟨sb, 0, none⟩), .int .u32 id] w fun e w' => e = .returned (.int .i64 0) ∧ ∃ fv' m', ASt w0 w' sb gb ub mb fv' m' S (x + 1) := by
  obtain ⟨k, hk, hu, rfl⟩ := mem_ids hid
  obtain ⟨h1, h2, h3, h4, h5, h6, h7⟩ := live_of h.inv hu
  have hcnt := h.cnt
  have hfl := h.fl
  by_cases hg : m.g k < 4194303
  · refine (free_on h.on (m.g k * 1024 + k) k rfl h2 h3 h.inv.ulen h1 h4 h6 (by omega) (by omega) (by omega) (by rw [h5]; exact hg)).mono ?_
    rintro e w' ⟨rfl, fv', ho, _, ht⟩
    exact ⟨rfl, fv', _, freed h hu hg ho ht⟩
  · refine (free_worn h.on.lies (m.g k * 1024 + k) h2 h3 h.inv.ulen h1 k h4 h6 (by omega) (by omega) (by rw [h5]; exact hg)).mono ?_
    rintro e w' ⟨rfl, hl, ht⟩
    exact ⟨rfl, fv, _, freed_worn h hu hg hl ht⟩
/-- The Take of the round, when there is room. -/
theorem take_is {w0 w : World} {sb gb ub mb : Nat} {fv : Value} {m : M} {S : List Int} {x : Int} (h : ASt w0 w sb gb ub mb fv m S x) (x1 : x ≤ 200) (hr : ¬ (m.free = [] ∧ m.fresh = m.gen.length)) :
    Calls Try.prog 15 #[.pointer (some ⟨sb, 0, none⟩)] w fun e w' => ∃ id fv' m', e = .returned (.tuple #[.int .u32 id, .int .i64 0]) ∧ Taken w0 w' sb gb ub mb fv' m' S (x + 1) id := by
  have hcnt := h.cnt
  have hfl := h.fl
  have hi := h.inv
  have hp := hi.pos
  have hf := hi.fr
  rcases List.eq_nil_or_concat m.free with hnil | ⟨fs, t, hfs⟩
  · have hn : m.fresh < m.gen.length := by
      have : m.fresh ≠ m.gen.length := fun e => hr ⟨hnil, e⟩
      omega
    refine (take_fresh_on h.on (m.first * 1024 + m.fresh) rfl rfl hi.ulen hi.big hnil hf.1 hn hp.1 hp.2 (by omega) (by omega)).mono ?_
    rintro e w' ⟨rfl, ho, ht⟩
    exact ⟨_, fv, _, rfl, taken_fresh h hnil hn ho ht⟩
  · rw [List.concat_eq_append] at hfs
    obtain ⟨s, rfl, h1, h2, h3, h4, h5, h6⟩ := last_ok hi hfs
    have hl : fs.length + 1 = m.free.length := by rw [hfs]; simp
    refine (take_free_on h.on fs s ((m.g s + 1) * 1024 + s) rfl rfl hfs hi.ulen hi.big h2 (by omega) (show 0 ≤ m.g s by omega) h5 (by omega) (by omega)).mono ?_
    rintro e w' ⟨rfl, fv', ho, _, ht⟩
    exact ⟨_, fv', _, rfl, taken_free h hfs ho ht⟩

set_option maxHeartbeats 4000000 in
set_option maxRecDepth 100000 in
theorem apart_calls (n : Int) (A1 : Option Addr) (c1 : Nat) (sc : List Int) (w : World) (n0 : 0 ≤ n) (n1 : n < 256) (hs : sc.length * 1 ≤ 140737488351232) (hC : Kd.C (Kd.int .u8) w A1 sc.length sc) (hwf : ∀ x ∈ sc, (Lit.int .u8 x).wf = true) :
    Calls Try.prog 5 #[.int .u8 n, .slice A1 sc.length c1] w fun e w' => e = .returned (.bool true) ∧ Below w.heap.size w w' := by
  have HS := Aside0.mk hC
  have HWF := Aside0.mk hwf
  clear hC hwf
  have hmm := @run_makeMap Try.prog
  go_enter Try.func5, Try.ntmps5
  go_wp2_with (first
    | (go_at_call 9; (with_reducible refine (awake_calls _).mono ?_); rintro e wa ⟨rfl, hB⟩; have HB := Aside0.mk hB; clear hB)
    | (go_at_call 14; (with_reducible refine (new_at _ _ w _ (by omega) (by omega) (by omega) (by omega) HB.out).mono ?_); rintro e w1 ⟨sb, gb, ub, rfl, ho, _⟩; have H0 := Aside0.mk ho; clear ho))
  clear hmm
  have HI := Aside0.mk (show ARel w sb gb ub w1.heap.size sc.length (.int .i64 0) (w1.alloc (.map #[] 0)) from ⟨0, _, _, [], rfl, by omega, by omega, ⟨on_below H0.out ((Below.refl _ w1).alloc (Nat.le_refl _) _), inv_new _ 1 (by omega) (by omega) (by omega), World.ownsMap_made w1 Try.prog 23 R, by simp, H0.out.below.size, by simp [M.new], by simp [M.new], by simp⟩⟩)
  clear H0
  go_loopw [28] (fun i W => ARel w sb gb ub w1.heap.size sc.length i W) (fun i _ => sc.length - (intOf i).toNat)
  case atStart => exact HI.out
  case round =>
    clear HI
    obtain ⟨x, fv, m, S, rfl, x0, x1, hst⟩ := hrel
    have ST := Aside0.mk hst
    clear hst
    by_cases hend : x < (sc.length : Int)
    · obtain ⟨ad, e1, hx⟩ := Kd.at_int (Kd.C_below HS.out ST.out.on.below) x x0 hend
      cases e1
      have hox := HWF.out _ (rd_mem x0 hend)
      generalize rd sc x = o at hx hox
      have ho : 0 ≤ o ∧ o < 256 := by
        simp [Lit.wf, IntKind.min, IntKind.max, IntKind.signed, IntKind.bits] at hox
        omega
      obtain ⟨o0, o1⟩ := ho
      clear hox
      have d0 : decide (x < (sc.length : Int)) = true := decide_eq_true hend
      by_cases h3 : 200 ≤ x
      · have d3 : decide (200 ≤ x) = true := decide_eq_true h3
        go_wp2
        go_ret
        exact ⟨rfl, ST.out.on.below⟩
      have d3 : decide (200 ≤ x) = false := decide_eq_false h3
      obtain ⟨l, hl⟩ : ∃ l, m.ids m.gen.length = l := ⟨_, rfl⟩
      have HL := Aside0.mk hl
      clear hl
      have hl1024 : l.length ≤ 1024 := by rw [← HL.out]; exact Nat.le_trans (ids_len _ _) ST.out.inv.big
      by_cases hodd : o % 2 = 1
      · have do1 : decide (o % 2 = 1) = true := decide_eq_true hodd
        have do2 : (o % 2 == 1) = true := by rw [beq_iff_eq]; exact hodd
        by_cases hpos : 0 < l.length
        · have dp : decide (0 < (l.length : Int)) = true := decide_eq_true (by omega)
          have dp2 : decide (0 < l.length) = true := decide_eq_true hpos
          obtain ⟨y, hy⟩ : ∃ y, o / 2 % (l.length : Int) = y := ⟨_, rfl⟩
          have y0 : 0 ≤ y := by rw [← hy]; exact Int.emod_nonneg _ (by omega)
          have y1 : y < (l.length : Int) := by rw [← hy]; exact Int.emod_lt_of_pos _ (by omega)
          have HIN := Aside0.mk (rd_mem y0 y1)
          go_wp2_with (first
            | (go_at_call 19; (with_reducible refine (list_is l ST.out.on.lies ST.out.inv HL.out).mono ?_); rintro e w2 ⟨A2, rfl, hr2, hb2⟩; have ST2 := Aside0.mk (a_below ST.out hb2); obtain ⟨ad2, e2, hx2⟩ := Kd.at_int hr2 y y0 y1; cases e2; clear hr2 hb2)
            | (go_at_call 16; (with_reducible refine (free_is ST2.out (by omega) (by rw [HL.out]; exact HIN.out)).mono ?_); rintro e w3 ⟨rfl, fv3, m3, hst3⟩; have ST3 := Aside0.mk hst3; clear hst3))
          go_roundw
          case rel => exact a_rel ST3.out x0 hend
          case measure => simp [intOf]; omega
        · have hl0 : l = [] := List.length_eq_zero_iff.1 (by omega)
          subst hl0
          by_cases hfull : m.free = [] ∧ m.fresh = m.gen.length
          · have HF := Aside0.mk hfull
            have HR := Aside0.mk (show (m.free.length : Int) + m.gen.length - m.fresh = 0 by rw [hfull.1, hfull.2]; simp)
            clear hfull
            go_wp2_with (first
              | (go_at_call 19; (with_reducible refine (list_is [] ST.out.on.lies ST.out.inv HL.out).mono ?_); rintro e w2 ⟨A2, rfl, hr2, hb2⟩; have ST2 := Aside0.mk (a_below ST.out hb2); clear hr2 hb2)
              | (go_at_call 15; (with_reducible refine (take_full ST2.out.on.lies HF.out.1 HF.out.2).mono ?_); rintro e w3 ⟨rfl, hd⟩; have ST3 := Aside0.mk (a_drawn ST2.out hd); clear hd)
              | (go_at_call 17; (with_reducible refine (room_is 0 ST3.out.on.lies ST3.out.inv.big (by have := ST3.out.fl; omega) ST3.out.inv.fr.1 (by have := ST3.out.inv.fr.2; have := ST3.out.inv.big; omega) HR.out).mono ?_); rintro e w4 ⟨rfl, hd⟩; have ST4 := Aside0.mk (a_drawn ST3.out hd); clear hd))
            go_roundw
            case rel => exact a_rel (a_more ST4.out) x0 hend
            case measure => simp [intOf]; omega
          · have HF := Aside0.mk hfull
            clear hfull
            go_wp2_with (first
              | (go_at_call 19; (with_reducible refine (list_is [] ST.out.on.lies ST.out.inv HL.out).mono ?_); rintro e w2 ⟨A2, rfl, hr2, hb2⟩; have ST2 := Aside0.mk (a_below ST.out hb2); clear hr2 hb2)
              | (go_at_call 15; (with_reducible refine (take_is ST2.out (by omega) HF.out).mono ?_); rintro e w3 ⟨id, fv3, m3, rfl, htk⟩; have TK := Aside0.mk htk; have hlook := seen_lookup htk.st.seen htk.i0 htk.i1 htk.new; clear htk)
              | (go_at_call 20; clear hlook; (with_reducible refine (live_is true TK.out.st.on.lies id TK.out.i0 TK.out.i1 TK.out.st.inv.ulen TK.out.live).mono ?_); rintro e w4 ⟨rfl, hd⟩; have ST4 := Aside0.mk (a_drawn TK.out.st hd); clear hd)
              | (at_mapUpdate; refine wpList_mapUpdate_own _ rfl _ _ _ 40 rfl 23 4 keys Try.underlying40 R _ S.length (SD S) rfl ST4.out.seen (len_ok (by have := ST4.out.sl; omega)) _ _ (.int .u32 id) rfl rfl (key_of TK.out.i0 TK.out.i1) (.lit (.bool true)) [] (plainElem_bool Try.underlying4 true) ?_; intro w5 hown5 hgrow5; have ST5 := Aside0.mk (put_done { TK.out with st := ST4.out } (by have := ST.out.sl; omega) hown5 hgrow5); clear hown5 hgrow5))
            go_roundw
            case rel => exact a_rel ST5.out x0 hend
            case measure => simp [intOf]; omega
      · have do1 : decide (o % 2 = 1) = false := decide_eq_false hodd
        have do2 : (o % 2 == 1) = false := by rw [beq_eq_false_iff_ne]; exact hodd
        by_cases hfull : m.free = [] ∧ m.fresh = m.gen.length
        · have HF := Aside0.mk hfull
          have HR := Aside0.mk (show (m.free.length : Int) + m.gen.length - m.fresh = 0 by rw [hfull.1, hfull.2]; simp)
          clear hfull
          go_wp2_with (first
            | (go_at_call 19; (with_reducible refine (list_is l ST.out.on.lies ST.out.inv HL.out).mono ?_); rintro e w2 ⟨A2, rfl, hr2, hb2⟩; have ST2 := Aside0.mk (a_below ST.out hb2); clear hr2 hb2)
            | (go_at_call 15; (with_reducible refine (take_full ST2.out.on.lies HF.out.1 HF.out.2).mono ?_); rintro e w3 ⟨rfl, hd⟩; have ST3 := Aside0.mk (a_drawn ST2.out hd); clear hd)
            | (go_at_call 17; (with_reducible refine (room_is 0 ST3.out.on.lies ST3.out.inv.big (by have := ST3.out.fl; omega) ST3.out.inv.fr.1 (by have := ST3.out.inv.fr.2; have := ST3.out.inv.big; omega) HR.out).mono ?_); rintro e w4 ⟨rfl, hd⟩; have ST4 := Aside0.mk (a_drawn ST3.out hd); clear hd))
          go_roundw
          case rel => exact a_rel (a_more ST4.out) x0 hend
          case measure => simp [intOf]; omega
        · have HF := Aside0.mk hfull
          clear hfull
          go_wp2_with (first
            | (go_at_call 19; (with_reducible refine (list_is l ST.out.on.lies ST.out.inv HL.out).mono ?_); rintro e w2 ⟨A2, rfl, hr2, hb2⟩; have ST2 := Aside0.mk (a_below ST.out hb2); clear hr2 hb2)
            | (go_at_call 15; (with_reducible refine (take_is ST2.out (by omega) HF.out).mono ?_); rintro e w3 ⟨id, fv3, m3, rfl, htk⟩; have TK := Aside0.mk htk; have hlook := seen_lookup htk.st.seen htk.i0 htk.i1 htk.new; clear htk)
            | (go_at_call 20; clear hlook; (with_reducible refine (live_is true TK.out.st.on.lies id TK.out.i0 TK.out.i1 TK.out.st.inv.ulen TK.out.live).mono ?_); rintro e w4 ⟨rfl, hd⟩; have ST4 := Aside0.mk (a_drawn TK.out.st hd); clear hd)
            | (at_mapUpdate; refine wpList_mapUpdate_own _ rfl _ _ _ 40 rfl 23 4 keys Try.underlying40 R _ S.length (SD S) rfl ST4.out.seen (len_ok (by have := ST4.out.sl; omega)) _ _ (.int .u32 id) rfl rfl (key_of TK.out.i0 TK.out.i1) (.lit (.bool true)) [] (plainElem_bool Try.underlying4 true) ?_; intro w5 hown5 hgrow5; have ST5 := Aside0.mk (put_done { TK.out with st := ST4.out } (by have := ST.out.sl; omega) hown5 hgrow5); clear hown5 hgrow5))
          go_roundw
          case rel => exact a_rel ST5.out x0 hend
          case measure => simp [intOf]; omega
    · have d0 : decide (x < (sc.length : Int)) = false := decide_eq_false hend
      go_wp2
      go_ret
      exact ⟨rfl, ST.out.on.below⟩
end Go.Proofs.Ytehfbnpibimmiaa.Apart
