/- SlotsWorn (function 4) answers true: a slot whose generations are used up is never taken again; when all are, there is no room. No conditions. -/
import Derived.Test.YtehfbnpibimmiaaAwake
namespace Go.Proofs.Ytehfbnpibimmiaa.Worn
open Go.RowKit Go.Proofs.YtehfbnpibimmiaaW.PrintWords Go.Proofs.YtehfbnpibimmiaaW.PrintLast Go.Proofs.YtehfbnpibimmiaaW.PrintMore Go.Proofs.Ytehfbnpibimmiaa.Lie Go.Proofs.Ytehfbnpibimmiaa.Use Go.Proofs.Ytehfbnpibimmiaa.Take Go.Proofs.Ytehfbnpibimmiaa.Live Go.Proofs.Ytehfbnpibimmiaa.Free Go.Proofs.Ytehfbnpibimmiaa.Awake

/-- Slots below q are worn; t generations of slot q have come and gone. -/
structure Wn (k : Nat) (f : Int) (q t : Nat) (m : M) : Prop where
  first : m.first = f
  len : m.gen.length = k
  ulen : m.used.length = k
  free : m.free = if t = 0 then [] else [(q : Int)]
  fresh : m.fresh = if t = 0 then (q : Int) else q + 1
  gen : t ≠ 0 → m.gen.getD q 0 = f + t - 1
  count : m.count = 0
theorem wn_new (k : Nat) (first : Int) : Wn k first 0 0 (M.new k first) := ⟨rfl, by simp [M.new], by simp [M.new], rfl, rfl, fun h => absurd rfl h, rfl⟩
theorem getD_set_self (l : List Int) (i : Nat) (x : Int) (h : i < l.length) : (l.set i x).getD i 0 = x := by simp [List.getD_eq_getElem?_getD, h]
theorem getD_set_self' (l : List Bool) (i : Nat) (x : Bool) (h : i < l.length) : (l.set i x).getD i false = x := by simp [List.getD_eq_getElem?_getD, h]
/-- Behind a Take: slot q is in use, in generation g. -/
structure Mid (k : Nat) (f : Int) (q : Nat) (g : Int) (m : M) : Prop where
  first : m.first = f
  len : m.gen.length = k
  ulen : m.used.length = k
  free : m.free = []
  fresh : m.fresh = q + 1
  gen : m.gen.getD q 0 = g
  used : m.used.getD q false = true
  count : m.count = 1
theorem mid_fresh {k q : Nat} {first : Int} {m : M} (h : Wn k first q 0 m) (hq : q < k) : Mid k first q first m.takeFresh := by
  have hf : m.fresh = q := by rw [h.fresh]; simp
  have hl := h.len
  have hu := h.ulen
  refine ⟨h.first, by simp [M.takeFresh, M.use, hl], by simp [M.takeFresh, M.use, hu], by simp [M.takeFresh, M.use, h.free], by simp [M.takeFresh, M.use, hf], ?_, ?_, by simp [M.takeFresh, M.use, h.count]⟩
  · simp only [M.takeFresh, M.use, hf, Int.toNat_natCast, h.first]; exact getD_set_self _ _ _ (by omega)
  · simp only [M.takeFresh, M.use, hf, Int.toNat_natCast]; exact getD_set_self' _ _ _ (by omega)
theorem mid_free {k q t : Nat} {first : Int} {m : M} (h : Wn k first q t m) (ht : t ≠ 0) (hq : q < k) : Mid k first q (first + t) (m.takeFree [] q) := by
  have hl := h.len
  have hu := h.ulen
  have hg := h.gen ht
  refine ⟨h.first, by simp [M.takeFree, M.use, hl], by simp [M.takeFree, M.use, hu], rfl, by simp [M.takeFree, M.use, h.fresh, ht], ?_, ?_, by simp [M.takeFree, M.use, h.count]⟩
  · simp only [M.takeFree, M.use]; rw [getD_set_self _ _ _ (by omega), hg]; omega
  · simp only [M.takeFree, M.use]; exact getD_set_self' _ _ _ (by omega)
theorem live_mid {k q : Nat} {first g : Int} {m : M} (h : Mid k first q g m) (hq : q < k) (hk : k ≤ 1024) : m.live (g * 1024 + q) = true := by
  unfold M.live
  have e1 : (g * 1024 + (q : Int)) % 1024 = q := by omega
  have e2 : (g * 1024 + (q : Int)) / 1024 = g := by omega
  rw [e1, e2, Int.toNat_natCast, if_pos (by rw [h.len]; omega), if_pos h.used, h.gen]
  simp
theorem wn_pushed {k q t : Nat} {first : Int} {m : M} (h : Mid k first q (first + t) m) : Wn k first q (t + 1) (m.unuseFree q) :=
  ⟨h.first, h.len, by simp [M.unuseFree, M.unuse, h.ulen], by simp [M.unuseFree, M.unuse, h.free], by simp [M.unuseFree, M.unuse, h.fresh], fun _ => by simp only [M.unuseFree, M.unuse]; rw [h.gen]; omega, by simp [M.unuseFree, M.unuse, h.count]⟩
theorem wn_worn {k q : Nat} {first g : Int} {m : M} (h : Mid k first q g m) : Wn k first (q + 1) 0 (m.unuse q) :=
  ⟨h.first, h.len, by simp [M.unuse, h.ulen], by simp [M.unuse, h.free], by simp [M.unuse, h.fresh], fun h => absurd rfl h, by simp [M.unuse, h.count]⟩

/-- One Take of such an object: the ID, and slot q in use. -/
theorem take_wn {w0 w : World} {sb gb ub : Nat} {fv : Value} {k q t : Nat} {first : Int} {m : M} (h : On w0 w sb gb ub fv m) (hw : Wn k first q t m) (hq : q < k) (hk : k ≤ 1024) (f1 : 1 ≤ first) (f2 : first + t ≤ 4194303) :
    Calls Try.prog 15 #[.pointer (some ⟨sb, 0, none⟩)] w fun e w' => e = .returned (.tuple #[.int .u32 ((first + t) * 1024 + q), .int .i64 0]) ∧ ∃ fv' m', On w0 w' sb gb ub fv' m' ∧ Mid k first q (first + t) m' := by
  have hl := hw.len
  have hu := hw.ulen
  have hc := hw.count
  by_cases ht : t = 0
  · subst ht
    have hf : m.fresh = q := by rw [hw.fresh]; simp
    refine (take_fresh_on h ((first + (0 : Nat)) * 1024 + q) (by rw [hw.first, hf]; omega) rfl (by omega) (by omega) (by rw [hw.free]; simp) (by omega) (by omega) (by rw [hw.first]; omega) (by rw [hw.first]; omega) (by omega) (by omega)).mono ?_
    rintro e w' ⟨rfl, ho, _⟩
    refine ⟨rfl, fv, _, ho, ?_⟩
    have := mid_fresh hw hq
    simpa using this
  · have hg := hw.gen ht
    refine (take_free_on h [] q ((first + t) * 1024 + q) (by rw [hg]; omega) rfl (by rw [hw.free, if_neg ht]; rfl) (by omega) (by omega) (by omega) (by simp) (by omega) (by omega) (by omega) (by omega)).mono ?_
    rintro e w' ⟨rfl, fv', ho, _, _⟩
    exact ⟨rfl, fv', _, ho, mid_free hw ht hq⟩
/-- One Free behind it: another generation of slot q, or the next slot. -/
theorem free_wn {w0 w : World} {sb gb ub : Nat} {fv : Value} {k q t r : Nat} {first : Int} {m : M} (h : On w0 w sb gb ub fv m) (hm : Mid k first q (first + t) m) (hq : q < k) (hk : k ≤ 1024) (f1 : 1 ≤ first) (hr : first + r = 4194304) (ht : t < r) :
    Calls Try.prog 16 #[.pointer (some ⟨sb, 0, none⟩), .int .u32 ((first + t) * 1024 + q)] w fun e w' => e = .returned (.int .i64 0) ∧ ∃ fv' m' q' t', On w0 w' sb gb ub fv' m' ∧ Wn k first q' t' m' ∧ t' < r ∧ q' * r + t' = q * r + t + 1 := by
  have hl := hm.len
  have hu := hm.ulen
  have hc := hm.count
  have hfr := hm.free
  have hd := live_mid hm hq hk
  by_cases hlast : t + 1 = r
  · refine (free_worn h.lies ((first + t) * 1024 + q) (by omega) (by omega) (by omega) hd q (by omega) (by omega) (by omega) (by omega) (by omega)).mono ?_
    rintro e w' ⟨rfl, hz, htn⟩
    refine ⟨rfl, fv, _, q + 1, 0, on_turns h hz htn, wn_worn hm, by omega, ?_⟩
    rw [Nat.add_mul]; omega
  · refine (free_live h.lies ((first + t) * 1024 + q) (by omega) (by omega) (by omega) hd q (by omega) (by omega) (by rw [hfr]; simp) h.below.size (by omega) (by omega) (by omega)).mono ?_
    rintro e w' ⟨rfl, fv', hz, _, htn⟩
    exact ⟨rfl, fv', _, q, t + 1, on_turns h hz htn, wn_pushed hm, by omega, by omega⟩

theorem room_is (x : Int) {w : World} {B sb gb ub : Nat} {fv : Value} {m : M} (h : Lies w B sb gb ub fv m) (hb : m.gen.length ≤ 1024) (hf : m.free.length ≤ 100000) (f0 : 0 ≤ m.fresh) (f1 : m.fresh ≤ 100000) (hx : (m.free.length : Int) + m.gen.length - m.fresh = x) :
    Calls Try.prog 17 #[.pointer (some ⟨sb, 0, none⟩)] w fun e w' => e = .returned (.int .i64 x) ∧ Drawn0 w w' := by
  subst hx; exact room_calls h hb hf f0 f1
theorem len_is (x : Int) {w : World} {B sb gb ub : Nat} {fv : Value} {m : M} (h : Lies w B sb gb ub fv m) (hx : m.count = x) : Calls Try.prog 18 #[.pointer (some ⟨sb, 0, none⟩)] w fun e w' => e = .returned (.int .i64 x) ∧ w = w' := by
  subst hx; exact len_calls h
def WRel (w0 : World) (sb gb ub k : Nat) (first : Int) (r : Nat) (i : Value) (W : World) : Prop :=
  ∃ (q t : Nat) (fv : Value) (m : M), i = .int .i64 ((q * r + t : Nat) : Int) ∧ t < r ∧ q * r + t ≤ k * r ∧ On w0 W sb gb ub fv m ∧ Wn k first q t m
theorem at_end {q t k r : Nat} (h1 : ¬ q * r + t < k * r) (h2 : q * r + t ≤ k * r) (ht : t < r) : q = k ∧ t = 0 := by
  have h : q * r + t = k * r := by omega
  have hqk : q = k := by
    rcases Nat.lt_trichotomy q k with hlt | he | hgt
    · have := Nat.mul_le_mul_right r (show q + 1 ≤ k by omega)
      rw [Nat.add_mul] at this; omega
    · exact he
    · have := Nat.mul_le_mul_right r (show k + 1 ≤ q by omega)
      rw [Nat.add_mul] at this; omega
  subst hqk
  exact ⟨rfl, by omega⟩
theorem in_it {q t k r : Nat} (h1 : q * r + t < k * r) : q < k := by
  apply Nat.lt_of_not_le
  intro hle
  have := Nat.mul_le_mul_right r hle
  omega

set_option maxHeartbeats 4000000 in
set_option maxRecDepth 100000 in
theorem worn_calls (n left : Int) (w : World) (n0 : 0 ≤ n) (n1 : n < 256) (l0 : 0 ≤ left) (l1 : left < 256) :
    Calls Try.prog 4 #[.int .u8 n, .int .u8 left] w fun e w' => e = .returned (.bool true) ∧ Below w.heap.size w w' := by
  go_enter Try.func4, Try.ntmps4
  go_wp2_with (first
    | (go_at_call 9; (with_reducible refine (awake_calls _).mono ?_); rintro e wa ⟨rfl, hB⟩; have HB := Aside0.mk hB; clear hB)
    | (go_at_call 14; (with_reducible refine (new_at _ _ w _ (by omega) (by omega) (by omega) (by omega) HB.out).mono ?_); rintro e w1 ⟨sb, gb, ub, rfl, ho, _⟩; have H0 := Aside0.mk ho; clear ho))
  obtain ⟨k, hk⟩ : ∃ k : Nat, 1 + n % 6 = (k : Int) := ⟨(1 + n % 6).toNat, by omega⟩
  obtain ⟨r, hr⟩ : ∃ r : Nat, 1 + left % 5 = (r : Int) := ⟨(1 + left % 5).toNat, by omega⟩
  have hk6 : k ≤ 6 := by omega
  have hr5 : r ≤ 5 := by omega
  have hr1 : 1 ≤ r := by omega
  have hkr : k * r ≤ 6 * 5 := Nat.mul_le_mul hk6 hr5
  have hmul : wrap64 ((1 + n % 6) * (1 + left % 5)) = ((k * r : Nat) : Int) := by
    rw [hk, hr, ← Int.natCast_mul]
    unfold wrap64
    omega
  rw [hmul]
  rw [hk, hr] at H0 ⊢
  simp only [Int.toNat_natCast] at H0
  obtain ⟨f, hf⟩ : ∃ f : Int, 4194303 - (r : Int) + 1 = f := ⟨_, rfl⟩
  have hfr : f + r = 4194304 := by omega
  have hf1 : 1 ≤ f := by omega
  rw [hf] at H0
  clear hmul hk hr hf
  have HK := Aside0.mk (show k * r ≤ 30 from hkr)
  have HI := Aside0.mk (show WRel w sb gb ub k f r (.int .i64 0) w1 from ⟨0, 0, _, _, by simp, by omega, by omega, H0.out, wn_new k f⟩)
  clear H0 hkr
  go_loopw [36] (fun i W => WRel w sb gb ub k f r i W) (fun i _ => k * r - (intOf i).toNat)
  case atStart => exact HI.out
  case round =>
    clear HI
    obtain ⟨q, t, fv, m, rfl, ht, hle, ho, hw⟩ := hrel
    have H0 := Aside0.mk ho
    have HW := Aside0.mk hw
    clear ho hw
    by_cases hend : q * r + t < k * r
    · have d0 : decide (((q * r + t : Nat) : Int) < ((k * r : Nat) : Int)) = true := decide_eq_true (by omega)
      have hq : q < k := in_it hend
      have hx : ((q * r + t : Nat) : Int) ≤ 30 := by have := HK.out; omega
      have HT := Aside0.mk ht
      obtain ⟨i, hi⟩ : ∃ i : Nat, q * r + t = i := ⟨_, rfl⟩
      have HIX := Aside0.mk hi
      obtain ⟨kr, hkr⟩ : ∃ kr : Nat, k * r = kr := ⟨_, rfl⟩
      have HKR := Aside0.mk hkr
      rw [hi] at hend hx ⊢
      rw [hkr] at hend ⊢
      clear hi hkr hle ht d0
      have d0 : decide ((i : Int) < (kr : Int)) = true := decide_eq_true (by omega)
      go_wp2_with (first
        | (go_at_call 15; (with_reducible refine (take_wn H0.out HW.out hq (by omega) hf1 (by have := HT.out; omega)).mono ?_); rintro e w2 ⟨rfl, fv', m', ho, hm⟩; clear H0; have H0 := Aside0.mk ho; have HM := Aside0.mk hm; clear ho hm)
        | (go_at_call 16; (with_reducible refine (free_wn H0.out HM.out hq (by omega) hf1 hfr HT.out).mono ?_); rintro e w3 ⟨rfl, fv2, m2, q', t', ho, hw2, ht2, he2⟩; clear H0; have H0 := Aside0.mk ho; have HW2 := Aside0.mk hw2; have HT2 := Aside0.mk ht2; have HE2 := Aside0.mk he2; clear ho hw2 ht2 he2))
      go_roundw
      case rel => exact ⟨q', t', fv2, m2, by rw [HE2.out, HIX.out]; simp, HT2.out, by have := HE2.out; have := HIX.out; have := HKR.out; omega, H0.out, HW2.out⟩
      case measure => simp [intOf]; omega
    · have d0 : decide (((q * r + t : Nat) : Int) < ((k * r : Nat) : Int)) = false := decide_eq_false (by omega)
      obtain ⟨rfl, rfl⟩ := at_end hend hle ht
      have hl := HW.out.len
      have hfe := HW.out.free
      have hfs := HW.out.fresh
      have hc := HW.out.count
      simp only [if_true] at hfe hfs
      have HA := Aside0.mk (show m.fresh = m.gen.length by omega)
      have HF := Aside0.mk hfe
      have HC := Aside0.mk hc
      have HR := Aside0.mk (show (m.free.length : Int) + m.gen.length - m.fresh = 0 by rw [hfe]; simp; omega)
      have HG := Aside0.mk (show m.gen.length ≤ 1024 ∧ m.free.length ≤ 100000 ∧ 0 ≤ m.fresh ∧ m.fresh ≤ 100000 by rw [hfe]; simp; omega)
      clear hl hfe hfs hc hle ht
      go_wp2_with (first
        | (go_at_call 15; (with_reducible refine (take_full H0.out.lies HF.out HA.out).mono ?_); rintro e w2 ⟨rfl, hd⟩; have H1 := Aside0.mk (on_drawn H0.out hd); clear H0 hd)
        | (go_at_call 17; (with_reducible refine (room_is 0 H1.out.lies HG.out.1 HG.out.2.1 HG.out.2.2.1 HG.out.2.2.2 HR.out).mono ?_); rintro e w3 ⟨rfl, hd⟩; have H2 := Aside0.mk (on_drawn H1.out hd); clear H1 hd)
        | (go_at_call 18; (with_reducible refine (len_is 0 H2.out.lies HC.out).mono ?_); rintro e w4 ⟨rfl, rfl⟩))
      go_ret
      exact ⟨rfl, H2.out.below⟩
end Go.Proofs.Ytehfbnpibimmiaa.Worn
