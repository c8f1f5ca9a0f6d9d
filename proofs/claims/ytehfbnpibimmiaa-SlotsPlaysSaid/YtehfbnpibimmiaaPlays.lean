/- SlotsPlays (function 6) answers true: every script of numbers that are taken and freed has the document's answers: so of a nil object. The walk; no conditions. -/
import Derived.Test.YtehfbnpibimmiaaBoth
import Derived.Test.YtehfbnpibimmiaaApart
namespace Go.Proofs.Ytehfbnpibimmiaa.Plays
open Go.RowKit Go.Proofs.YtehfbnpibimmiaaW.PrintWords Go.Proofs.YtehfbnpibimmiaaW.PrintLast Go.Proofs.YtehfbnpibimmiaaW.PrintMore Go.Proofs.Ytehfbnpibimmiaa.Lie Go.Proofs.Ytehfbnpibimmiaa.Use Go.Proofs.Ytehfbnpibimmiaa.Take Go.Proofs.Ytehfbnpibimmiaa.Live Go.Proofs.Ytehfbnpibimmiaa.Free Go.Proofs.Ytehfbnpibimmiaa.Awake Go.Proofs.Ytehfbnpibimmiaa.List Go.Proofs.Ytehfbnpibimmiaa.Inv Go.Proofs.Ytehfbnpibimmiaa.Ref Go.Proofs.Ytehfbnpibimmiaa.Refs Go.Proofs.Ytehfbnpibimmiaa.Rtake Go.Proofs.Ytehfbnpibimmiaa.Rlist Go.Proofs.Ytehfbnpibimmiaa.Both

theorem same_f (l : List Int) (hl : l.length ≤ 4611686018427387904) : PSlotsPlays.pinnaceref07_Same.f (l.length + 1) l l = some true := by
  unfold PSlotsPlays.pinnaceref07_Same.f
  rw [if_pos rfl]
  have key : ∀ (d k : Nat) (i : Int), 0 ≤ i → (l.length : Int) - i = d → d < k → PSlotsPlays.pinnaceref07_Same.l0 k l l l.length i = some true := by
    intro d
    induction d with
    | zero =>
      intro k i h0 hd hk
      obtain ⟨k, rfl⟩ : ∃ m, k = m + 1 := ⟨k - 1, by omega⟩
      simp only [PSlotsPlays.pinnaceref07_Same.l0]; rw [if_neg (by omega)]
    | succ d ih =>
      intro k i h0 hd hk
      obtain ⟨k, rfl⟩ : ∃ m, k = m + 1 := ⟨k - 1, by omega⟩
      have hw : wrap64 (i + 1) = i + 1 := by unfold wrap64; omega
      simp only [PSlotsPlays.pinnaceref07_Same.l0]; rw [if_pos (by omega), if_pos h0, if_pos (by omega), if_pos (by omega), if_pos trivial, hw]
      exact ih k (i + 1) (by omega) (by omega) (by omega)
  exact key l.length (l.length + 1) 0 (by omega) (by omega) (by omega)
theorem same_ok {w : World} {A A' : Option Addr} {c c' : Nat} {l : List Int} (hr : Kd.C (Kd.int .u32) w A l.length l) (hc : l.length ≤ c) (hr' : Kd.C (Kd.int .u32) w A' l.length l) (hc' : l.length ≤ c') (hl : l.length ≤ 4611686018427387904) :
    Calls Try.prog 26 #[.slice A l.length c, .slice A' l.length c'] w fun e w' => e = .returned (.bool true) ∧ Drawn0 w w' :=
  PSlotsPlays.pinnaceref07_Same.calls _ A c l A' c' l true w hr hc hr' hc' (same_f l hl)
theorem same_nil (w : World) : Calls Try.prog 26 #[.slice none 0 0, .slice none 0 0] w fun e w' => e = .returned (.bool true) ∧ Drawn0 w w' := by
  have h : Kd.C (Kd.int .u32) w none ([] : List Int).length [] := by
    obtain ⟨A, c, e, _, hr⟩ := reads_own (l := []) (own_nil w w.heap.size 23 1)
    injection e with e1
    rw [← e1] at hr
    exact hr
  exact same_ok (l := []) (c := 0) (c' := 0) h (by simp) h (by simp) (by simp)
theorem len_is (x : Int) {w : World} {B sb gb ub : Nat} {fv : Value} {m : M} (h : Lies w B sb gb ub fv m) (hx : m.count = x) : Calls Try.prog 18 #[.pointer (some ⟨sb, 0, none⟩)] w fun e w' => e = .returned (.int .i64 x) ∧ w = w' := by
  subst hx; exact len_calls h
section
variable {w0 W W1 : World} {sb gb ub rb lb : Nat} {fv v v' : Value} {m : M} {F : Nat → Int} {clock : Int} {had : List Int} {x : Int}
/-- What the reference lists, and how many it could give. -/
theorem rlist_is (l : List Int) (r : Int) (h : PSt w0 W sb gb ub rb lb fv v m F clock had x) (hl : m.ids m.gen.length = l) (hr : (m.free.length : Int) + m.gen.length - m.fresh = r) :
    Calls Try.prog 25 #[.pointer (some ⟨rb, 0, none⟩)] W fun e w' => ∃ A c, e = .returned (.tuple #[.slice A l.length c, .int .i64 r]) ∧ l.length ≤ c ∧ Kd.C (Kd.int .u32) w' A l.length l ∧ Below W.heap.size W w' := by
  subst hl hr
  rw [h.ri.room]
  exact rlist_calls h.two.ref h.inv.big (used_gen h.inv)
theorem count_is {l : List Int} (h : PSt w0 W sb gb ub rb lb fv v m F clock had x) (hl : m.ids m.gen.length = l) : m.count = (l.length : Int) := by
  subst hl
  rw [h.ri.cnt]
  have := rids_cnt m.g m.u m.gen.length
  show ((Rlist.cnt m.u m.gen.length : Nat) : Int) = ((rids m.g m.u m.gen.length).length : Int)
  omega
theorem p_had {id : Int} (h : PSt w0 W sb gb ub rb lb fv v m F clock had x) (hid : 0 ≤ id ∧ id < 4294967296) (hg : W.grownBy W1 v.ownBlock) (ho : W1.ownsRow w0.heap.size 23 1 v' (had ++ [id]).length (nums .u32 (had ++ [id]))) : PSt w0 W1 sb gb ub rb lb fv v' m F clock (had ++ [id]) (x + 1) :=
  have hx := h.hx
  have hc := h.cx
  { two := two_had h.two hg ho, inv := h.inv, ri := h.ri, wf := fun i hi => by
      rcases List.mem_append.1 hi with q | q
      · exact h.wf i q
      · simp at q; subst q; exact hid
    cx := by omega, hx := by simp; omega }
theorem tm_range {id er : Int} (h : TMid w0 W sb gb ub rb lb v F clock had x id er) : 0 ≤ id ∧ id < 4294967296 := by
  obtain ⟨_, _, _, _, _, h1, h2, _⟩ := h
  exact ⟨h1, h2⟩
end
/-! ### The walk of a right object -/
def PRel (w0 : World) (sb gb ub rb lb : Nat) (q : Nat) (v i : Value) (W : World) : Prop :=
  ∃ (x : Int) (fv : Value) (m : M) (F : Nat → Int) (clock : Int) (had : List Int), i = .int .i64 x ∧ 0 ≤ x ∧ x ≤ q ∧ PSt w0 W sb gb ub rb lb fv v m F clock had x
theorem p_rel {w0 W : World} {sb gb ub rb lb q : Nat} {fv v : Value} {m : M} {F : Nat → Int} {clock : Int} {had : List Int} {x : Int} (h : PSt w0 W sb gb ub rb lb fv v m F clock had (x + 1)) (x0 : 0 ≤ x) (hx : x < q) : PRel w0 sb gb ub rb lb q v (.int .i64 (x + 1)) W := ⟨x + 1, fv, m, F, clock, had, rfl, by omega, by omega, h⟩
theorem idx (o : Int) (n : Nat) (h : 0 < n) (h2 : n ≤ 1000) : ∃ y, wrap64 ((IntKind.u64.wrap o).tmod (IntKind.u64.wrap (n : Int))) = y ∧ 0 ≤ y ∧ y < (n : Int) ∧ ¬ IntKind.u64.wrap (n : Int) = 0 := by
  have e1 : IntKind.u64.wrap (n : Int) = n := by rw [IntKind.wrap_u64]; omega
  have h0 : 0 ≤ IntKind.u64.wrap o := by rw [IntKind.wrap_u64]; omega
  rw [e1]
  generalize IntKind.u64.wrap o = z at h0
  rw [Int.tmod_eq_emod_of_nonneg h0]
  have k0 := Int.emod_nonneg z (show (n : Int) ≠ 0 by omega)
  have k1 := Int.emod_lt_of_pos z (show 0 < (n : Int) by omega)
  refine ⟨_, rfl, ?_, ?_, by omega⟩ <;> unfold wrap64 <;> omega
theorem p_new {w wa wb : World} {n : Nat} {first : Int} {sb gb ub rb lb : Nat} (h : On w wa sb gb ub (.slice none 0 0) (M.new n first)) (hr : RLies wb wa.heap.size rb lb first n (fun _ => 0) (fun _ => false) (fun _ => 0) 0) (hb : Below wa.heap.size wa wb) (hn : n ≤ 1024) (h3 : 1 ≤ first) (h4 : first ≤ 4194303) :
    PSt w wb sb gb ub rb lb (.slice none 0 0) (.slice none 0 0) (M.new n first) (fun _ => 0) 0 [] 0 := by
  have hu : (M.new n first).u = fun _ => false := funext fun k => by
    simp only [M.u, M.new, List.getD_eq_getElem?_getD, List.getElem?_replicate]
    by_cases hk : k < n <;> simp [hk]
  have hg : (M.new n first).g = fun _ => 0 := funext fun k => by
    simp only [M.g, M.new, List.getD_eq_getElem?_getD, List.getElem?_replicate]
    by_cases hk : k < n <;> simp [hk]
  have gl : (M.new n first).gen.length = n := by simp [M.new]
  have hsz := h.below.size
  refine ⟨⟨on_below h hb, ?_, own_nil _ _ _ _⟩, inv_new n first hn h3 h4, ri_new n first, by simp, by omega, by simp⟩
  rw [hu, hg, gl]
  exact { hr with lb := ⟨by have := hr.lb.1; omega, by have := hr.lb.2; omega⟩ }
set_option maxHeartbeats 8000000 in
set_option maxRecDepth 100000 in
theorem good_calls (n first : Int) (A2 : Option Addr) (c2 : Nat) (sc : List Int) (w : World) (hs : sc.length * 8 ≤ 140737488351232) (hsr : Kd.C (Kd.int .i64) w A2 sc.length sc) (h1 : 1 ≤ n) (h2 : n ≤ 1024) (h3 : 1 ≤ first) (h4 : first ≤ 4194303) :
    Calls Try.prog 6 #[.int .i64 n, .int .i64 first, .slice A2 sc.length c2] w fun e w' => e = .returned (.bool true) ∧ Below w.heap.size w w' := by
  obtain ⟨nn, rfl⟩ := Int.eq_ofNat_of_zero_le (show 0 ≤ n by omega)
  have HS := Aside0.mk hsr
  clear hsr
  go_enter Try.func6, Try.ntmps6
  go_wp2_with (first
    | (go_at_call 9; (with_reducible refine (awake_calls _).mono ?_); rintro e wa ⟨rfl, hB⟩; have HB := Aside0.mk hB; clear hB)
    | (go_at_call 14; (with_reducible refine (new_on nn first w _ (by omega) (by omega) h3 h4 HB.out).mono ?_); rintro e w1 ⟨sb, gb, ub, rfl, ho, _⟩; have H0 := Aside0.mk ho; clear ho)
    | (go_at_call 21; (with_reducible refine (rnew_good nn first _ (by omega) (by omega) h3 h4).mono ?_); rintro e w2 ⟨rb, lb, rfl, hr, hb⟩; have HR := Aside0.mk hr; have HB2 := Aside0.mk hb; clear hr hb))
  have HI := Aside0.mk (p_new H0.out HR.out HB2.out (by omega) h3 h4)
  have HSL := Aside0.mk hs
  clear H0 HR HB2 HB hs
  go_loopw [11, 47] (fun v i W => PRel w sb gb ub rb lb sc.length v i W) (fun _ i _ => sc.length - (intOf i).toNat)
  case atStart => exact ⟨0, _, _, _, _, [], rfl, by omega, by omega, HI.out⟩
  case round =>
    clear HI
    obtain ⟨x, fv, m, F, clock, had, rfl, x0, x1, hst⟩ := hrel
    have ST := Aside0.mk hst
    clear hst
    by_cases hend : x < (sc.length : Int)
    · obtain ⟨ad, e1, hx⟩ := Kd.at_int (Kd.C_below HS.out ST.out.two.on.below) x x0 hend
      cases e1
      generalize rd sc x = o at hx
      have d0 : decide (x < (sc.length : Int)) = true := decide_eq_true hend
      by_cases hl3 : 120 ≤ x
      · have d3 : decide (120 ≤ x) = true := decide_eq_true hl3
        go_wp2
        go_ret
        exact ⟨rfl, ST.out.two.on.below⟩
      have d3 : decide (120 ≤ x) = false := decide_eq_false hl3
      obtain ⟨A, c, rfl, hc, hr⟩ := reads_own ST.out.two.had
      have HH := Aside0.mk hr
      clear hr
      by_cases ho : 0 ≤ o
      · have dg : decide (0 ≤ o) = true := decide_eq_true ho
        by_cases hm3 : o % 3 < 2
        · have dm : decide (o % 3 < 2) = true := decide_eq_true hm3
          go_wp2_with (first
            | (go_at_call 15; (with_reducible refine (lib_take ST.out).mono ?_); rintro e w2 ⟨id, er, rfl, hm⟩; have HM := Aside0.mk hm; have HID := Aside0.mk (tm_range hm); clear hm)
            | (go_at_call 22; (with_reducible refine (ref_take HM.out).mono ?_); rintro e w3 ⟨rfl, fv3, m3, F3, hst⟩; have ST3 := Aside0.mk hst; clear hst HM)
            | (at_builtin; refine print_append_num (w0 := w3) w.heap.size rfl (.tmp 84) (.tmp 86) 41 23 .u32 4 rfl Try.underlying41 info23 (by decide) _ had _ rfl rfl ST3.out.two.had (Below.refl _ _) ST3.out.two.on.below.size (by have := ST.out.hx; omega) ?_; intro v1 w4 hown _ hgr hat; have ST4 := Aside0.mk (p_had ST3.out HID.out hgr hown); clear hown hgr hat; obtain ⟨l, hl⟩ : ∃ l, m3.ids m3.gen.length = l := ⟨_, rfl⟩; have HL := Aside0.mk hl; clear hl; obtain ⟨r, hr⟩ : ∃ r : Int, (m3.free.length : Int) + m3.gen.length - m3.fresh = r := ⟨_, rfl⟩; have HR := Aside0.mk hr; clear hr; have HN := Aside0.mk (show l.length ≤ 1024 by rw [← HL.out]; exact Nat.le_trans (ids_len _ _) ST4.out.inv.big))
            | (go_at_call 25; (with_reducible refine (rlist_is l r ST4.out HL.out HR.out).mono ?_); rintro e w5 ⟨A5, c5, rfl, hc5, hr5, hb5⟩; have ST5 := Aside0.mk (p_below ST4.out hb5); have HQ5 := Aside0.mk hr5; clear hr5 hb5)
            | (go_at_call 19; (with_reducible refine (Apart.list_is l ST5.out.two.on.lies ST5.out.inv HL.out).mono ?_); rintro e w6 ⟨A6, rfl, hr6, hb6⟩; have ST6 := Aside0.mk (p_below ST5.out hb6); have HQ6 := Aside0.mk hr6; have HQ7 := Aside0.mk (Kd.C_below HQ5.out hb6); clear hr6 hb6)
            | (go_at_call 26; (with_reducible refine (same_ok HQ6.out (Nat.le_refl _) HQ7.out hc5 (by have := HN.out; omega)).mono ?_); rintro e w7 ⟨rfl, hd⟩; have ST7 := Aside0.mk (p_below ST6.out hd.below); clear hd)
            | (go_at_call 18; (with_reducible refine (len_is (l.length : Int) ST7.out.two.on.lies (count_is ST7.out HL.out)).mono ?_); rintro e w8 ⟨rfl, rfl⟩)
            | (go_at_call 17; (with_reducible refine (Apart.room_is r ST7.out.two.on.lies ST7.out.inv.big (by have := (ri_small ST7.out.inv ST7.out.ri).2.2; omega) ST7.out.inv.fr.1 (by have := ST7.out.inv.fr.2; have := ST7.out.inv.big; omega) HR.out).mono ?_); rintro e w9 ⟨rfl, hd⟩; have ST9 := Aside0.mk (p_below ST7.out hd.below); clear hd))
          go_roundw
          case rel => exact p_rel ST9.out x0 hend
          case measure => simp [intOf]; omega
        · have dm : decide (o % 3 < 2) = false := decide_eq_false hm3
          by_cases hz : had.length = 0
          · have dz : decide ((had.length : Int) = 0) = true := decide_eq_true (by omega)
            have dz2 : ((had.length : Int) == 0) = true := by rw [beq_iff_eq]; omega
            clear hz
            go_wp2_with (first
              | (go_at_call 15; (with_reducible refine (lib_take ST.out).mono ?_); rintro e w2 ⟨id, er, rfl, hm⟩; have HM := Aside0.mk hm; have HID := Aside0.mk (tm_range hm); clear hm)
              | (go_at_call 22; (with_reducible refine (ref_take HM.out).mono ?_); rintro e w3 ⟨rfl, fv3, m3, F3, hst⟩; have ST3 := Aside0.mk hst; clear hst HM)
              | (at_builtin; refine print_append_num (w0 := w3) w.heap.size rfl (.tmp 84) (.tmp 86) 41 23 .u32 4 rfl Try.underlying41 info23 (by decide) _ had _ rfl rfl ST3.out.two.had (Below.refl _ _) ST3.out.two.on.below.size (by have := ST.out.hx; omega) ?_; intro v1 w4 hown _ hgr hat; have ST4 := Aside0.mk (p_had ST3.out HID.out hgr hown); clear hown hgr hat; obtain ⟨l, hl⟩ : ∃ l, m3.ids m3.gen.length = l := ⟨_, rfl⟩; have HL := Aside0.mk hl; clear hl; obtain ⟨r, hr⟩ : ∃ r : Int, (m3.free.length : Int) + m3.gen.length - m3.fresh = r := ⟨_, rfl⟩; have HR := Aside0.mk hr; clear hr; have HN := Aside0.mk (show l.length ≤ 1024 by rw [← HL.out]; exact Nat.le_trans (ids_len _ _) ST4.out.inv.big))
              | (go_at_call 25; (with_reducible refine (rlist_is l r ST4.out HL.out HR.out).mono ?_); rintro e w5 ⟨A5, c5, rfl, hc5, hr5, hb5⟩; have ST5 := Aside0.mk (p_below ST4.out hb5); have HQ5 := Aside0.mk hr5; clear hr5 hb5)
              | (go_at_call 19; (with_reducible refine (Apart.list_is l ST5.out.two.on.lies ST5.out.inv HL.out).mono ?_); rintro e w6 ⟨A6, rfl, hr6, hb6⟩; have ST6 := Aside0.mk (p_below ST5.out hb6); have HQ6 := Aside0.mk hr6; have HQ7 := Aside0.mk (Kd.C_below HQ5.out hb6); clear hr6 hb6)
              | (go_at_call 26; (with_reducible refine (same_ok HQ6.out (Nat.le_refl _) HQ7.out hc5 (by have := HN.out; omega)).mono ?_); rintro e w7 ⟨rfl, hd⟩; have ST7 := Aside0.mk (p_below ST6.out hd.below); clear hd)
              | (go_at_call 18; (with_reducible refine (len_is (l.length : Int) ST7.out.two.on.lies (count_is ST7.out HL.out)).mono ?_); rintro e w8 ⟨rfl, rfl⟩)
              | (go_at_call 17; (with_reducible refine (Apart.room_is r ST7.out.two.on.lies ST7.out.inv.big (by have := (ri_small ST7.out.inv ST7.out.ri).2.2; omega) ST7.out.inv.fr.1 (by have := ST7.out.inv.fr.2; have := ST7.out.inv.big; omega) HR.out).mono ?_); rintro e w9 ⟨rfl, hd⟩; have ST9 := Aside0.mk (p_below ST7.out hd.below); clear hd))
            go_roundw
            case rel => exact p_rel ST9.out x0 hend
            case measure => simp [intOf]; omega
          · have dz : decide ((had.length : Int) = 0) = false := decide_eq_false (by omega)
            have dz2 : ((had.length : Int) == 0) = false := by rw [beq_eq_false_iff_ne]; omega
            obtain ⟨y, hy, y0, y1, hyn⟩ := idx o had.length (by omega) (by have := ST.out.hx; omega)
            obtain ⟨adh, eh, hcy⟩ := Kd.at_int HH.out y y0 y1
            cases eh
            have hid := ST.out.wf _ (Apart.rd_mem y0 y1)
            generalize rd had y = id at hcy hid
            obtain ⟨i0, i1⟩ := hid
            by_cases h5 : Int.tmod o 5 = 4
            · have d5 : decide (Int.tmod o 5 = 4) = true := decide_eq_true h5
              have d5b : (Int.tmod o 5 == 4) = true := by rw [beq_iff_eq]; exact h5
              have d6 : 0 ≤ o → decide (o % 5 = 4) = true := fun h => by rw [← Int.tmod_eq_emod_of_nonneg h]; exact d5
              have d6b : 0 ≤ o → (o % 5 == 4) = true := fun h => by rw [← Int.tmod_eq_emod_of_nonneg h]; exact d5b
              go_wp2_with (first
                | (go_at_call 16; (with_reducible refine (lib_free ST.out ((id + 1024) % 4294967296) (by omega) (by omega)).mono ?_); rintro e w2 ⟨er, rfl, hm⟩; have HM := Aside0.mk hm; clear hm)
                | (go_at_call 23; (with_reducible refine (ref_free HM.out (by omega) (by omega) (by omega)).mono ?_); rintro e w3 ⟨rfl, fv3, m3, F3, clock3, hst⟩; have ST3 := Aside0.mk hst; clear hst HM; obtain ⟨lv, hlv⟩ : ∃ b, m3.live (((id + 1024) % 4294967296)) = b := ⟨_, rfl⟩; have HLV := Aside0.mk hlv; clear hlv)
                | (go_at_call 20; (with_reducible refine (live_is lv ST3.out.two.on.lies (((id + 1024) % 4294967296)) (by omega) (by omega) ST3.out.inv.ulen HLV.out).mono ?_); rintro e w31 ⟨rfl, hd⟩; have ST31 := Aside0.mk (p_below ST3.out hd.below); clear hd)
                | (go_at_call 24; (with_reducible refine (rlive_is lv ST31.out.two.ref ST31.out.inv.big (((id + 1024) % 4294967296)) (by omega) (by omega) (by rw [live_iff, HLV.out])).mono ?_); rintro e w4 ⟨rfl, hb⟩; have ST4 := Aside0.mk (p_below ST31.out hb); clear hb; obtain ⟨l, hl⟩ : ∃ l, m3.ids m3.gen.length = l := ⟨_, rfl⟩; have HL := Aside0.mk hl; clear hl; obtain ⟨r, hr⟩ : ∃ r : Int, (m3.free.length : Int) + m3.gen.length - m3.fresh = r := ⟨_, rfl⟩; have HR := Aside0.mk hr; clear hr; have HN := Aside0.mk (show l.length ≤ 1024 by rw [← HL.out]; exact Nat.le_trans (ids_len _ _) ST4.out.inv.big))
                | (go_at_call 25; (with_reducible refine (rlist_is l r ST4.out HL.out HR.out).mono ?_); rintro e w5 ⟨A5, c5, rfl, hc5, hr5, hb5⟩; have ST5 := Aside0.mk (p_below ST4.out hb5); have HQ5 := Aside0.mk hr5; clear hr5 hb5)
                | (go_at_call 19; (with_reducible refine (Apart.list_is l ST5.out.two.on.lies ST5.out.inv HL.out).mono ?_); rintro e w6 ⟨A6, rfl, hr6, hb6⟩; have ST6 := Aside0.mk (p_below ST5.out hb6); have HQ6 := Aside0.mk hr6; have HQ7 := Aside0.mk (Kd.C_below HQ5.out hb6); clear hr6 hb6)
                | (go_at_call 26; (with_reducible refine (same_ok HQ6.out (Nat.le_refl _) HQ7.out hc5 (by have := HN.out; omega)).mono ?_); rintro e w7 ⟨rfl, hd⟩; have ST7 := Aside0.mk (p_below ST6.out hd.below); clear hd)
                | (go_at_call 18; (with_reducible refine (len_is (l.length : Int) ST7.out.two.on.lies (count_is ST7.out HL.out)).mono ?_); rintro e w8 ⟨rfl, rfl⟩)
                | (go_at_call 17; (with_reducible refine (Apart.room_is r ST7.out.two.on.lies ST7.out.inv.big (by have := (ri_small ST7.out.inv ST7.out.ri).2.2; omega) ST7.out.inv.fr.1 (by have := ST7.out.inv.fr.2; have := ST7.out.inv.big; omega) HR.out).mono ?_); rintro e w9 ⟨rfl, hd⟩; have ST9 := Aside0.mk (p_below ST7.out hd.below); clear hd))
              go_roundw
              case rel => exact p_rel ST9.out x0 hend
              case measure => simp [intOf]; omega
            · have d5 : decide (Int.tmod o 5 = 4) = false := decide_eq_false h5
              have d5b : (Int.tmod o 5 == 4) = false := by rw [beq_eq_false_iff_ne]; exact h5
              have d6 : 0 ≤ o → decide (o % 5 = 4) = false := fun h => by rw [← Int.tmod_eq_emod_of_nonneg h]; exact d5
              have d6b : 0 ≤ o → (o % 5 == 4) = false := fun h => by rw [← Int.tmod_eq_emod_of_nonneg h]; exact d5b
              go_wp2_with (first
                | (go_at_call 16; (with_reducible refine (lib_free ST.out id (by omega) (by omega)).mono ?_); rintro e w2 ⟨er, rfl, hm⟩; have HM := Aside0.mk hm; clear hm)
                | (go_at_call 23; (with_reducible refine (ref_free HM.out (by omega) (by omega) (by omega)).mono ?_); rintro e w3 ⟨rfl, fv3, m3, F3, clock3, hst⟩; have ST3 := Aside0.mk hst; clear hst HM; obtain ⟨lv, hlv⟩ : ∃ b, m3.live (id) = b := ⟨_, rfl⟩; have HLV := Aside0.mk hlv; clear hlv)
                | (go_at_call 20; (with_reducible refine (live_is lv ST3.out.two.on.lies (id) (by omega) (by omega) ST3.out.inv.ulen HLV.out).mono ?_); rintro e w31 ⟨rfl, hd⟩; have ST31 := Aside0.mk (p_below ST3.out hd.below); clear hd)
                | (go_at_call 24; (with_reducible refine (rlive_is lv ST31.out.two.ref ST31.out.inv.big (id) (by omega) (by omega) (by rw [live_iff, HLV.out])).mono ?_); rintro e w4 ⟨rfl, hb⟩; have ST4 := Aside0.mk (p_below ST31.out hb); clear hb; obtain ⟨l, hl⟩ : ∃ l, m3.ids m3.gen.length = l := ⟨_, rfl⟩; have HL := Aside0.mk hl; clear hl; obtain ⟨r, hr⟩ : ∃ r : Int, (m3.free.length : Int) + m3.gen.length - m3.fresh = r := ⟨_, rfl⟩; have HR := Aside0.mk hr; clear hr; have HN := Aside0.mk (show l.length ≤ 1024 by rw [← HL.out]; exact Nat.le_trans (ids_len _ _) ST4.out.inv.big))
                | (go_at_call 25; (with_reducible refine (rlist_is l r ST4.out HL.out HR.out).mono ?_); rintro e w5 ⟨A5, c5, rfl, hc5, hr5, hb5⟩; have ST5 := Aside0.mk (p_below ST4.out hb5); have HQ5 := Aside0.mk hr5; clear hr5 hb5)
                | (go_at_call 19; (with_reducible refine (Apart.list_is l ST5.out.two.on.lies ST5.out.inv HL.out).mono ?_); rintro e w6 ⟨A6, rfl, hr6, hb6⟩; have ST6 := Aside0.mk (p_below ST5.out hb6); have HQ6 := Aside0.mk hr6; have HQ7 := Aside0.mk (Kd.C_below HQ5.out hb6); clear hr6 hb6)
                | (go_at_call 26; (with_reducible refine (same_ok HQ6.out (Nat.le_refl _) HQ7.out hc5 (by have := HN.out; omega)).mono ?_); rintro e w7 ⟨rfl, hd⟩; have ST7 := Aside0.mk (p_below ST6.out hd.below); clear hd)
                | (go_at_call 18; (with_reducible refine (len_is (l.length : Int) ST7.out.two.on.lies (count_is ST7.out HL.out)).mono ?_); rintro e w8 ⟨rfl, rfl⟩)
                | (go_at_call 17; (with_reducible refine (Apart.room_is r ST7.out.two.on.lies ST7.out.inv.big (by have := (ri_small ST7.out.inv ST7.out.ri).2.2; omega) ST7.out.inv.fr.1 (by have := ST7.out.inv.fr.2; have := ST7.out.inv.big; omega) HR.out).mono ?_); rintro e w9 ⟨rfl, hd⟩; have ST9 := Aside0.mk (p_below ST7.out hd.below); clear hd))
              go_roundw
              case rel => exact p_rel ST9.out x0 hend
              case measure => simp [intOf]; omega
      · have dg : decide (0 ≤ o) = false := decide_eq_false ho
        by_cases hz : had.length = 0
        · have dz : decide ((had.length : Int) = 0) = true := decide_eq_true (by omega)
          have dz2 : ((had.length : Int) == 0) = true := by rw [beq_iff_eq]; omega
          clear hz
          go_wp2_with (first
            | (go_at_call 15; (with_reducible refine (lib_take ST.out).mono ?_); rintro e w2 ⟨id, er, rfl, hm⟩; have HM := Aside0.mk hm; have HID := Aside0.mk (tm_range hm); clear hm)
            | (go_at_call 22; (with_reducible refine (ref_take HM.out).mono ?_); rintro e w3 ⟨rfl, fv3, m3, F3, hst⟩; have ST3 := Aside0.mk hst; clear hst HM)
            | (at_builtin; refine print_append_num (w0 := w3) w.heap.size rfl (.tmp 84) (.tmp 86) 41 23 .u32 4 rfl Try.underlying41 info23 (by decide) _ had _ rfl rfl ST3.out.two.had (Below.refl _ _) ST3.out.two.on.below.size (by have := ST.out.hx; omega) ?_; intro v1 w4 hown _ hgr hat; have ST4 := Aside0.mk (p_had ST3.out HID.out hgr hown); clear hown hgr hat; obtain ⟨l, hl⟩ : ∃ l, m3.ids m3.gen.length = l := ⟨_, rfl⟩; have HL := Aside0.mk hl; clear hl; obtain ⟨r, hr⟩ : ∃ r : Int, (m3.free.length : Int) + m3.gen.length - m3.fresh = r := ⟨_, rfl⟩; have HR := Aside0.mk hr; clear hr; have HN := Aside0.mk (show l.length ≤ 1024 by rw [← HL.out]; exact Nat.le_trans (ids_len _ _) ST4.out.inv.big))
            | (go_at_call 25; (with_reducible refine (rlist_is l r ST4.out HL.out HR.out).mono ?_); rintro e w5 ⟨A5, c5, rfl, hc5, hr5, hb5⟩; have ST5 := Aside0.mk (p_below ST4.out hb5); have HQ5 := Aside0.mk hr5; clear hr5 hb5)
            | (go_at_call 19; (with_reducible refine (Apart.list_is l ST5.out.two.on.lies ST5.out.inv HL.out).mono ?_); rintro e w6 ⟨A6, rfl, hr6, hb6⟩; have ST6 := Aside0.mk (p_below ST5.out hb6); have HQ6 := Aside0.mk hr6; have HQ7 := Aside0.mk (Kd.C_below HQ5.out hb6); clear hr6 hb6)
            | (go_at_call 26; (with_reducible refine (same_ok HQ6.out (Nat.le_refl _) HQ7.out hc5 (by have := HN.out; omega)).mono ?_); rintro e w7 ⟨rfl, hd⟩; have ST7 := Aside0.mk (p_below ST6.out hd.below); clear hd)
            | (go_at_call 18; (with_reducible refine (len_is (l.length : Int) ST7.out.two.on.lies (count_is ST7.out HL.out)).mono ?_); rintro e w8 ⟨rfl, rfl⟩)
            | (go_at_call 17; (with_reducible refine (Apart.room_is r ST7.out.two.on.lies ST7.out.inv.big (by have := (ri_small ST7.out.inv ST7.out.ri).2.2; omega) ST7.out.inv.fr.1 (by have := ST7.out.inv.fr.2; have := ST7.out.inv.big; omega) HR.out).mono ?_); rintro e w9 ⟨rfl, hd⟩; have ST9 := Aside0.mk (p_below ST7.out hd.below); clear hd))
          go_roundw
          case rel => exact p_rel ST9.out x0 hend
          case measure => simp [intOf]; omega
        · have dz : decide ((had.length : Int) = 0) = false := decide_eq_false (by omega)
          have dz2 : ((had.length : Int) == 0) = false := by rw [beq_eq_false_iff_ne]; omega
          obtain ⟨y, hy, y0, y1, hyn⟩ := idx o had.length (by omega) (by have := ST.out.hx; omega)
          obtain ⟨adh, eh, hcy⟩ := Kd.at_int HH.out y y0 y1
          cases eh
          have hid := ST.out.wf _ (Apart.rd_mem y0 y1)
          generalize rd had y = id at hcy hid
          obtain ⟨i0, i1⟩ := hid
          by_cases h5 : Int.tmod o 5 = 4
          · have d5 : decide (Int.tmod o 5 = 4) = true := decide_eq_true h5
            have d5b : (Int.tmod o 5 == 4) = true := by rw [beq_iff_eq]; exact h5
            have d6 : 0 ≤ o → decide (o % 5 = 4) = true := fun h => by rw [← Int.tmod_eq_emod_of_nonneg h]; exact d5
            have d6b : 0 ≤ o → (o % 5 == 4) = true := fun h => by rw [← Int.tmod_eq_emod_of_nonneg h]; exact d5b
            go_wp2_with (first
              | (go_at_call 16; (with_reducible refine (lib_free ST.out ((id + 1024) % 4294967296) (by omega) (by omega)).mono ?_); rintro e w2 ⟨er, rfl, hm⟩; have HM := Aside0.mk hm; clear hm)
              | (go_at_call 23; (with_reducible refine (ref_free HM.out (by omega) (by omega) (by omega)).mono ?_); rintro e w3 ⟨rfl, fv3, m3, F3, clock3, hst⟩; have ST3 := Aside0.mk hst; clear hst HM; obtain ⟨lv, hlv⟩ : ∃ b, m3.live (((id + 1024) % 4294967296)) = b := ⟨_, rfl⟩; have HLV := Aside0.mk hlv; clear hlv)
              | (go_at_call 20; (with_reducible refine (live_is lv ST3.out.two.on.lies (((id + 1024) % 4294967296)) (by omega) (by omega) ST3.out.inv.ulen HLV.out).mono ?_); rintro e w31 ⟨rfl, hd⟩; have ST31 := Aside0.mk (p_below ST3.out hd.below); clear hd)
              | (go_at_call 24; (with_reducible refine (rlive_is lv ST31.out.two.ref ST31.out.inv.big (((id + 1024) % 4294967296)) (by omega) (by omega) (by rw [live_iff, HLV.out])).mono ?_); rintro e w4 ⟨rfl, hb⟩; have ST4 := Aside0.mk (p_below ST31.out hb); clear hb; obtain ⟨l, hl⟩ : ∃ l, m3.ids m3.gen.length = l := ⟨_, rfl⟩; have HL := Aside0.mk hl; clear hl; obtain ⟨r, hr⟩ : ∃ r : Int, (m3.free.length : Int) + m3.gen.length - m3.fresh = r := ⟨_, rfl⟩; have HR := Aside0.mk hr; clear hr; have HN := Aside0.mk (show l.length ≤ 1024 by rw [← HL.out]; exact Nat.le_trans (ids_len _ _) ST4.out.inv.big))
              | (go_at_call 25; (with_reducible refine (rlist_is l r ST4.out HL.out HR.out).mono ?_); rintro e w5 ⟨A5, c5, rfl, hc5, hr5, hb5⟩; have ST5 := Aside0.mk (p_below ST4.out hb5); have HQ5 := Aside0.mk hr5; clear hr5 hb5)
              | (go_at_call 19; (with_reducible refine (Apart.list_is l ST5.out.two.on.lies ST5.out.inv HL.out).mono ?_); rintro e w6 ⟨A6, rfl, hr6, hb6⟩; have ST6 := Aside0.mk (p_below ST5.out hb6); have HQ6 := Aside0.mk hr6; have HQ7 := Aside0.mk (Kd.C_below HQ5.out hb6); clear hr6 hb6)
              | (go_at_call 26; (with_reducible refine (same_ok HQ6.out (Nat.le_refl _) HQ7.out hc5 (by have := HN.out; omega)).mono ?_); rintro e w7 ⟨rfl, hd⟩; have ST7 := Aside0.mk (p_below ST6.out hd.below); clear hd)
              | (go_at_call 18; (with_reducible refine (len_is (l.length : Int) ST7.out.two.on.lies (count_is ST7.out HL.out)).mono ?_); rintro e w8 ⟨rfl, rfl⟩)
              | (go_at_call 17; (with_reducible refine (Apart.room_is r ST7.out.two.on.lies ST7.out.inv.big (by have := (ri_small ST7.out.inv ST7.out.ri).2.2; omega) ST7.out.inv.fr.1 (by have := ST7.out.inv.fr.2; have := ST7.out.inv.big; omega) HR.out).mono ?_); rintro e w9 ⟨rfl, hd⟩; have ST9 := Aside0.mk (p_below ST7.out hd.below); clear hd))
            go_roundw
            case rel => exact p_rel ST9.out x0 hend
            case measure => simp [intOf]; omega
          · have d5 : decide (Int.tmod o 5 = 4) = false := decide_eq_false h5
            have d5b : (Int.tmod o 5 == 4) = false := by rw [beq_eq_false_iff_ne]; exact h5
            have d6 : 0 ≤ o → decide (o % 5 = 4) = false := fun h => by rw [← Int.tmod_eq_emod_of_nonneg h]; exact d5
            have d6b : 0 ≤ o → (o % 5 == 4) = false := fun h => by rw [← Int.tmod_eq_emod_of_nonneg h]; exact d5b
            go_wp2_with (first
              | (go_at_call 16; (with_reducible refine (lib_free ST.out id (by omega) (by omega)).mono ?_); rintro e w2 ⟨er, rfl, hm⟩; have HM := Aside0.mk hm; clear hm)
              | (go_at_call 23; (with_reducible refine (ref_free HM.out (by omega) (by omega) (by omega)).mono ?_); rintro e w3 ⟨rfl, fv3, m3, F3, clock3, hst⟩; have ST3 := Aside0.mk hst; clear hst HM; obtain ⟨lv, hlv⟩ : ∃ b, m3.live (id) = b := ⟨_, rfl⟩; have HLV := Aside0.mk hlv; clear hlv)
              | (go_at_call 20; (with_reducible refine (live_is lv ST3.out.two.on.lies (id) (by omega) (by omega) ST3.out.inv.ulen HLV.out).mono ?_); rintro e w31 ⟨rfl, hd⟩; have ST31 := Aside0.mk (p_below ST3.out hd.below); clear hd)
              | (go_at_call 24; (with_reducible refine (rlive_is lv ST31.out.two.ref ST31.out.inv.big (id) (by omega) (by omega) (by rw [live_iff, HLV.out])).mono ?_); rintro e w4 ⟨rfl, hb⟩; have ST4 := Aside0.mk (p_below ST31.out hb); clear hb; obtain ⟨l, hl⟩ : ∃ l, m3.ids m3.gen.length = l := ⟨_, rfl⟩; have HL := Aside0.mk hl; clear hl; obtain ⟨r, hr⟩ : ∃ r : Int, (m3.free.length : Int) + m3.gen.length - m3.fresh = r := ⟨_, rfl⟩; have HR := Aside0.mk hr; clear hr; have HN := Aside0.mk (show l.length ≤ 1024 by rw [← HL.out]; exact Nat.le_trans (ids_len _ _) ST4.out.inv.big))
              | (go_at_call 25; (with_reducible refine (rlist_is l r ST4.out HL.out HR.out).mono ?_); rintro e w5 ⟨A5, c5, rfl, hc5, hr5, hb5⟩; have ST5 := Aside0.mk (p_below ST4.out hb5); have HQ5 := Aside0.mk hr5; clear hr5 hb5)
              | (go_at_call 19; (with_reducible refine (Apart.list_is l ST5.out.two.on.lies ST5.out.inv HL.out).mono ?_); rintro e w6 ⟨A6, rfl, hr6, hb6⟩; have ST6 := Aside0.mk (p_below ST5.out hb6); have HQ6 := Aside0.mk hr6; have HQ7 := Aside0.mk (Kd.C_below HQ5.out hb6); clear hr6 hb6)
              | (go_at_call 26; (with_reducible refine (same_ok HQ6.out (Nat.le_refl _) HQ7.out hc5 (by have := HN.out; omega)).mono ?_); rintro e w7 ⟨rfl, hd⟩; have ST7 := Aside0.mk (p_below ST6.out hd.below); clear hd)
              | (go_at_call 18; (with_reducible refine (len_is (l.length : Int) ST7.out.two.on.lies (count_is ST7.out HL.out)).mono ?_); rintro e w8 ⟨rfl, rfl⟩)
              | (go_at_call 17; (with_reducible refine (Apart.room_is r ST7.out.two.on.lies ST7.out.inv.big (by have := (ri_small ST7.out.inv ST7.out.ri).2.2; omega) ST7.out.inv.fr.1 (by have := ST7.out.inv.fr.2; have := ST7.out.inv.big; omega) HR.out).mono ?_); rintro e w9 ⟨rfl, hd⟩; have ST9 := Aside0.mk (p_below ST7.out hd.below); clear hd))
            go_roundw
            case rel => exact p_rel ST9.out x0 hend
            case measure => simp [intOf]; omega
    · have d0 : decide (x < (sc.length : Int)) = false := decide_eq_false hend
      go_wp2
      go_ret
      exact ⟨rfl, ST.out.two.on.below⟩
/-! ### The walk of a nil object -/
structure NSt (w W : World) (v : Value) (had : List Int) (x : Int) : Prop where
  below : Below w.heap.size w W
  own : W.ownsRow w.heap.size 23 1 v had.length (nums .u32 had)
  wf : ∀ id ∈ had, 0 ≤ id ∧ id < 4294967296
  hx : had.length ≤ x
def NRel (w : World) (q : Nat) (v i : Value) (W : World) : Prop := ∃ (x : Int) (had : List Int), i = .int .i64 x ∧ 0 ≤ x ∧ x ≤ q ∧ NSt w W v had x
section
variable {w W W1 : World} {v v' : Value} {had : List Int} {x : Int}
theorem n_below (h : NSt w W v had x) (hb : Below W.heap.size W W1) : NSt w W1 v had x := { h with below := h.below.trans (hb.mono h.below.size), own := pw_own_below h.own hb }
theorem n_more (h : NSt w W v had x) : NSt w W v had (x + 1) := { h with hx := by have := h.hx; omega }
theorem n_had (h : NSt w W v had x) (hg : W.grownBy W1 v.ownBlock) (ho : W1.ownsRow w.heap.size 23 1 v' (had ++ [0]).length (nums .u32 (had ++ [0]))) : NSt w W1 v' (had ++ [0]) (x + 1) :=
  have hx := h.hx
  { below := h.below.grown hg h.below.size (own_base h.own), own := ho, wf := fun i hi => by
      rcases List.mem_append.1 hi with q | q
      · exact h.wf i q
      · simp at q; subst q; omega
    hx := by simp; omega }
theorem n_rel {q : Nat} (h : NSt w W v had (x + 1)) (x0 : 0 ≤ x) (hx : x < q) : NRel w q v (.int .i64 (x + 1)) W := ⟨x + 1, had, rfl, by omega, by omega, h⟩
end
set_option maxHeartbeats 8000000 in
set_option maxRecDepth 100000 in
theorem nil_calls (n first : Int) (A2 : Option Addr) (c2 : Nat) (sc : List Int) (w : World) (hs : sc.length * 8 ≤ 140737488351232) (hsr : Kd.C (Kd.int .i64) w A2 sc.length sc) (hbad : n < 1 ∨ 1024 < n ∨ first < 1 ∨ 4194303 < first) :
    Calls Try.prog 6 #[.int .i64 n, .int .i64 first, .slice A2 sc.length c2] w fun e w' => e = .returned (.bool true) ∧ Below w.heap.size w w' := by
  have HS := Aside0.mk hsr
  have HBAD := Aside0.mk hbad
  clear hsr hbad
  go_enter Try.func6, Try.ntmps6
  go_wp2_with (first
    | (go_at_call 9; (with_reducible refine (awake_calls _).mono ?_); rintro e wa ⟨rfl, hB⟩; have HB := Aside0.mk hB; clear hB)
    | (go_at_call 14; (with_reducible refine (new_bad n first _ HBAD.out).mono ?_); rintro e w1 ⟨rfl, rfl⟩)
    | (go_at_call 21; (with_reducible refine (rnew_bad n first _ HBAD.out).mono ?_); rintro e w1 ⟨rfl, rfl⟩))
  have HSL := Aside0.mk hs
  clear hs
  go_loopw [11, 47] (fun v i W => NRel w sc.length v i W) (fun _ i _ => sc.length - (intOf i).toNat)
  case atStart => exact ⟨0, [], rfl, by omega, by omega, HB.out, own_nil _ _ _ _, by simp, by simp⟩
  case round =>
    clear HB
    obtain ⟨x, had, rfl, x0, x1, hst⟩ := hrel
    have ST := Aside0.mk hst
    clear hst
    by_cases hend : x < (sc.length : Int)
    · obtain ⟨ad, e1, hx⟩ := Kd.at_int (Kd.C_below HS.out ST.out.below) x x0 hend
      cases e1
      generalize rd sc x = o at hx
      have d0 : decide (x < (sc.length : Int)) = true := decide_eq_true hend
      by_cases hl3 : 120 ≤ x
      · have d3 : decide (120 ≤ x) = true := decide_eq_true hl3
        go_wp2
        go_ret
        exact ⟨rfl, ST.out.below⟩
      have d3 : decide (120 ≤ x) = false := decide_eq_false hl3
      obtain ⟨A, c, rfl, hc, hr⟩ := reads_own ST.out.own
      have HH := Aside0.mk hr
      clear hr
      by_cases ho : 0 ≤ o
      · have dg : decide (0 ≤ o) = true := decide_eq_true ho
        by_cases hm3 : o % 3 < 2
        · have dm : decide (o % 3 < 2) = true := decide_eq_true hm3
          go_wp2_with (first
            | (go_at_call 15; (with_reducible refine (take_nil _).mono ?_); rintro e w2 ⟨rfl, rfl⟩)
            | (go_at_call 22; (with_reducible refine (rtake_nil _).mono ?_); rintro e w3 ⟨rfl, rfl⟩)
            | (at_builtin; refine print_append_num (w0 := wr) w.heap.size rfl (.tmp 84) (.tmp 86) 41 23 .u32 4 rfl Try.underlying41 info23 (by decide) _ had _ rfl rfl ST.out.own (Below.refl _ _) ST.out.below.size (by have := ST.out.hx; omega) ?_; intro v1 w4 hown _ hgr hat; have ST4 := Aside0.mk (n_had ST.out hgr hown); clear hown hgr hat)
            | (go_at_call 25; (with_reducible refine (rlist_nil _).mono ?_); rintro e w5 ⟨rfl, rfl⟩)
            | (go_at_call 19; (with_reducible refine (list_nil _).mono ?_); rintro e w6 ⟨rfl, rfl⟩)
            | (go_at_call 26; (with_reducible refine (same_nil _).mono ?_); rintro e w7 ⟨rfl, hd⟩; have ST9 := Aside0.mk (n_below ST4.out hd.below); clear hd)
            | (go_at_call 18; (with_reducible refine (len_nil _).mono ?_); rintro e w8 ⟨rfl, rfl⟩)
            | (go_at_call 17; (with_reducible refine (room_nil _).mono ?_); rintro e w9 ⟨rfl, rfl⟩))
          go_roundw
          case rel => exact n_rel ST9.out x0 hend
          case measure => simp [intOf]; omega
        · have dm : decide (o % 3 < 2) = false := decide_eq_false hm3
          by_cases hz : had.length = 0
          · have dz : decide ((had.length : Int) = 0) = true := decide_eq_true (by omega)
            have dz2 : ((had.length : Int) == 0) = true := by rw [beq_iff_eq]; omega
            clear hz
            go_wp2_with (first
              | (go_at_call 15; (with_reducible refine (take_nil _).mono ?_); rintro e w2 ⟨rfl, rfl⟩)
              | (go_at_call 22; (with_reducible refine (rtake_nil _).mono ?_); rintro e w3 ⟨rfl, rfl⟩)
              | (at_builtin; refine print_append_num (w0 := wr) w.heap.size rfl (.tmp 84) (.tmp 86) 41 23 .u32 4 rfl Try.underlying41 info23 (by decide) _ had _ rfl rfl ST.out.own (Below.refl _ _) ST.out.below.size (by have := ST.out.hx; omega) ?_; intro v1 w4 hown _ hgr hat; have ST4 := Aside0.mk (n_had ST.out hgr hown); clear hown hgr hat)
              | (go_at_call 25; (with_reducible refine (rlist_nil _).mono ?_); rintro e w5 ⟨rfl, rfl⟩)
              | (go_at_call 19; (with_reducible refine (list_nil _).mono ?_); rintro e w6 ⟨rfl, rfl⟩)
              | (go_at_call 26; (with_reducible refine (same_nil _).mono ?_); rintro e w7 ⟨rfl, hd⟩; have ST9 := Aside0.mk (n_below ST4.out hd.below); clear hd)
              | (go_at_call 18; (with_reducible refine (len_nil _).mono ?_); rintro e w8 ⟨rfl, rfl⟩)
              | (go_at_call 17; (with_reducible refine (room_nil _).mono ?_); rintro e w9 ⟨rfl, rfl⟩))
            go_roundw
            case rel => exact n_rel ST9.out x0 hend
            case measure => simp [intOf]; omega
          · have dz : decide ((had.length : Int) = 0) = false := decide_eq_false (by omega)
            have dz2 : ((had.length : Int) == 0) = false := by rw [beq_eq_false_iff_ne]; omega
            obtain ⟨y, hy, y0, y1, hyn⟩ := idx o had.length (by omega) (by have := ST.out.hx; omega)
            obtain ⟨adh, eh, hcy⟩ := Kd.at_int HH.out y y0 y1
            cases eh
            have hid := ST.out.wf _ (Apart.rd_mem y0 y1)
            generalize rd had y = id at hcy hid
            obtain ⟨i0, i1⟩ := hid
            by_cases h5 : Int.tmod o 5 = 4
            · have d5 : decide (Int.tmod o 5 = 4) = true := decide_eq_true h5
              have d5b : (Int.tmod o 5 == 4) = true := by rw [beq_iff_eq]; exact h5
              have d6 : 0 ≤ o → decide (o % 5 = 4) = true := fun h => by rw [← Int.tmod_eq_emod_of_nonneg h]; exact d5
              have d6b : 0 ≤ o → (o % 5 == 4) = true := fun h => by rw [← Int.tmod_eq_emod_of_nonneg h]; exact d5b
              go_wp2_with (first
                | (go_at_call 16; (with_reducible refine (free_nil (((id + 1024) % 4294967296)) _).mono ?_); rintro e w2 ⟨rfl, rfl⟩)
                | (go_at_call 23; (with_reducible refine (rfree_nil (((id + 1024) % 4294967296)) _).mono ?_); rintro e w3 ⟨rfl, rfl⟩)
                | (go_at_call 20; (with_reducible refine (live_nil (((id + 1024) % 4294967296)) _).mono ?_); rintro e w31 ⟨rfl, hd⟩; have ST31 := Aside0.mk (n_more (n_below ST.out hd.below)); clear hd)
                | (go_at_call 24; (with_reducible refine (rlive_nil (((id + 1024) % 4294967296)) _).mono ?_); rintro e w4 ⟨rfl, rfl⟩; have ST4 := ST31)
                | (go_at_call 25; (with_reducible refine (rlist_nil _).mono ?_); rintro e w5 ⟨rfl, rfl⟩)
                | (go_at_call 19; (with_reducible refine (list_nil _).mono ?_); rintro e w6 ⟨rfl, rfl⟩)
                | (go_at_call 26; (with_reducible refine (same_nil _).mono ?_); rintro e w7 ⟨rfl, hd⟩; have ST9 := Aside0.mk (n_below ST4.out hd.below); clear hd)
                | (go_at_call 18; (with_reducible refine (len_nil _).mono ?_); rintro e w8 ⟨rfl, rfl⟩)
                | (go_at_call 17; (with_reducible refine (room_nil _).mono ?_); rintro e w9 ⟨rfl, rfl⟩))
              go_roundw
              case rel => exact n_rel ST9.out x0 hend
              case measure => simp [intOf]; omega
            · have d5 : decide (Int.tmod o 5 = 4) = false := decide_eq_false h5
              have d5b : (Int.tmod o 5 == 4) = false := by rw [beq_eq_false_iff_ne]; exact h5
              have d6 : 0 ≤ o → decide (o % 5 = 4) = false := fun h => by rw [← Int.tmod_eq_emod_of_nonneg h]; exact d5
              have d6b : 0 ≤ o → (o % 5 == 4) = false := fun h => by rw [← Int.tmod_eq_emod_of_nonneg h]; exact d5b
              go_wp2_with (first
                | (go_at_call 16; (with_reducible refine (free_nil (id) _).mono ?_); rintro e w2 ⟨rfl, rfl⟩)
                | (go_at_call 23; (with_reducible refine (rfree_nil (id) _).mono ?_); rintro e w3 ⟨rfl, rfl⟩)
                | (go_at_call 20; (with_reducible refine (live_nil (id) _).mono ?_); rintro e w31 ⟨rfl, hd⟩; have ST31 := Aside0.mk (n_more (n_below ST.out hd.below)); clear hd)
                | (go_at_call 24; (with_reducible refine (rlive_nil (id) _).mono ?_); rintro e w4 ⟨rfl, rfl⟩; have ST4 := ST31)
                | (go_at_call 25; (with_reducible refine (rlist_nil _).mono ?_); rintro e w5 ⟨rfl, rfl⟩)
                | (go_at_call 19; (with_reducible refine (list_nil _).mono ?_); rintro e w6 ⟨rfl, rfl⟩)
                | (go_at_call 26; (with_reducible refine (same_nil _).mono ?_); rintro e w7 ⟨rfl, hd⟩; have ST9 := Aside0.mk (n_below ST4.out hd.below); clear hd)
                | (go_at_call 18; (with_reducible refine (len_nil _).mono ?_); rintro e w8 ⟨rfl, rfl⟩)
                | (go_at_call 17; (with_reducible refine (room_nil _).mono ?_); rintro e w9 ⟨rfl, rfl⟩))
              go_roundw
              case rel => exact n_rel ST9.out x0 hend
              case measure => simp [intOf]; omega
      · have dg : decide (0 ≤ o) = false := decide_eq_false ho
        by_cases hz : had.length = 0
        · have dz : decide ((had.length : Int) = 0) = true := decide_eq_true (by omega)
          have dz2 : ((had.length : Int) == 0) = true := by rw [beq_iff_eq]; omega
          clear hz
          go_wp2_with (first
            | (go_at_call 15; (with_reducible refine (take_nil _).mono ?_); rintro e w2 ⟨rfl, rfl⟩)
            | (go_at_call 22; (with_reducible refine (rtake_nil _).mono ?_); rintro e w3 ⟨rfl, rfl⟩)
            | (at_builtin; refine print_append_num (w0 := wr) w.heap.size rfl (.tmp 84) (.tmp 86) 41 23 .u32 4 rfl Try.underlying41 info23 (by decide) _ had _ rfl rfl ST.out.own (Below.refl _ _) ST.out.below.size (by have := ST.out.hx; omega) ?_; intro v1 w4 hown _ hgr hat; have ST4 := Aside0.mk (n_had ST.out hgr hown); clear hown hgr hat)
            | (go_at_call 25; (with_reducible refine (rlist_nil _).mono ?_); rintro e w5 ⟨rfl, rfl⟩)
            | (go_at_call 19; (with_reducible refine (list_nil _).mono ?_); rintro e w6 ⟨rfl, rfl⟩)
            | (go_at_call 26; (with_reducible refine (same_nil _).mono ?_); rintro e w7 ⟨rfl, hd⟩; have ST9 := Aside0.mk (n_below ST4.out hd.below); clear hd)
            | (go_at_call 18; (with_reducible refine (len_nil _).mono ?_); rintro e w8 ⟨rfl, rfl⟩)
            | (go_at_call 17; (with_reducible refine (room_nil _).mono ?_); rintro e w9 ⟨rfl, rfl⟩))
          go_roundw
          case rel => exact n_rel ST9.out x0 hend
          case measure => simp [intOf]; omega
        · have dz : decide ((had.length : Int) = 0) = false := decide_eq_false (by omega)
          have dz2 : ((had.length : Int) == 0) = false := by rw [beq_eq_false_iff_ne]; omega
          obtain ⟨y, hy, y0, y1, hyn⟩ := idx o had.length (by omega) (by have := ST.out.hx; omega)
          obtain ⟨adh, eh, hcy⟩ := Kd.at_int HH.out y y0 y1
          cases eh
          have hid := ST.out.wf _ (Apart.rd_mem y0 y1)
          generalize rd had y = id at hcy hid
          obtain ⟨i0, i1⟩ := hid
          by_cases h5 : Int.tmod o 5 = 4
          · have d5 : decide (Int.tmod o 5 = 4) = true := decide_eq_true h5
            have d5b : (Int.tmod o 5 == 4) = true := by rw [beq_iff_eq]; exact h5
            have d6 : 0 ≤ o → decide (o % 5 = 4) = true := fun h => by rw [← Int.tmod_eq_emod_of_nonneg h]; exact d5
            have d6b : 0 ≤ o → (o % 5 == 4) = true := fun h => by rw [← Int.tmod_eq_emod_of_nonneg h]; exact d5b
            go_wp2_with (first
              | (go_at_call 16; (with_reducible refine (free_nil (((id + 1024) % 4294967296)) _).mono ?_); rintro e w2 ⟨rfl, rfl⟩)
              | (go_at_call 23; (with_reducible refine (rfree_nil (((id + 1024) % 4294967296)) _).mono ?_); rintro e w3 ⟨rfl, rfl⟩)
              | (go_at_call 20; (with_reducible refine (live_nil (((id + 1024) % 4294967296)) _).mono ?_); rintro e w31 ⟨rfl, hd⟩; have ST31 := Aside0.mk (n_more (n_below ST.out hd.below)); clear hd)
              | (go_at_call 24; (with_reducible refine (rlive_nil (((id + 1024) % 4294967296)) _).mono ?_); rintro e w4 ⟨rfl, rfl⟩; have ST4 := ST31)
              | (go_at_call 25; (with_reducible refine (rlist_nil _).mono ?_); rintro e w5 ⟨rfl, rfl⟩)
              | (go_at_call 19; (with_reducible refine (list_nil _).mono ?_); rintro e w6 ⟨rfl, rfl⟩)
              | (go_at_call 26; (with_reducible refine (same_nil _).mono ?_); rintro e w7 ⟨rfl, hd⟩; have ST9 := Aside0.mk (n_below ST4.out hd.below); clear hd)
              | (go_at_call 18; (with_reducible refine (len_nil _).mono ?_); rintro e w8 ⟨rfl, rfl⟩)
              | (go_at_call 17; (with_reducible refine (room_nil _).mono ?_); rintro e w9 ⟨rfl, rfl⟩))
            go_roundw
            case rel => exact n_rel ST9.out x0 hend
            case measure => simp [intOf]; omega
          · have d5 : decide (Int.tmod o 5 = 4) = false := decide_eq_false h5
            have d5b : (Int.tmod o 5 == 4) = false := by rw [beq_eq_false_iff_ne]; exact h5
            have d6 : 0 ≤ o → decide (o % 5 = 4) = false := fun h => by rw [← Int.tmod_eq_emod_of_nonneg h]; exact d5
            have d6b : 0 ≤ o → (o % 5 == 4) = false := fun h => by rw [← Int.tmod_eq_emod_of_nonneg h]; exact d5b
            go_wp2_with (first
              | (go_at_call 16; (with_reducible refine (free_nil (id) _).mono ?_); rintro e w2 ⟨rfl, rfl⟩)
              | (go_at_call 23; (with_reducible refine (rfree_nil (id) _).mono ?_); rintro e w3 ⟨rfl, rfl⟩)
              | (go_at_call 20; (with_reducible refine (live_nil (id) _).mono ?_); rintro e w31 ⟨rfl, hd⟩; have ST31 := Aside0.mk (n_more (n_below ST.out hd.below)); clear hd)
              | (go_at_call 24; (with_reducible refine (rlive_nil (id) _).mono ?_); rintro e w4 ⟨rfl, rfl⟩; have ST4 := ST31)
              | (go_at_call 25; (with_reducible refine (rlist_nil _).mono ?_); rintro e w5 ⟨rfl, rfl⟩)
              | (go_at_call 19; (with_reducible refine (list_nil _).mono ?_); rintro e w6 ⟨rfl, rfl⟩)
              | (go_at_call 26; (with_reducible refine (same_nil _).mono ?_); rintro e w7 ⟨rfl, hd⟩; have ST9 := Aside0.mk (n_below ST4.out hd.below); clear hd)
              | (go_at_call 18; (with_reducible refine (len_nil _).mono ?_); rintro e w8 ⟨rfl, rfl⟩)
              | (go_at_call 17; (with_reducible refine (room_nil _).mono ?_); rintro e w9 ⟨rfl, rfl⟩))
            go_roundw
            case rel => exact n_rel ST9.out x0 hend
            case measure => simp [intOf]; omega
    · have d0 : decide (x < (sc.length : Int)) = false := decide_eq_false hend
      go_wp2
      go_ret
      exact ⟨rfl, ST.out.below⟩
/-- SlotsPlays, for every input. -/
theorem plays_calls (n first : Int) (A2 : Option Addr) (c2 : Nat) (sc : List Int) (w : World) (hs : sc.length * 8 ≤ 140737488351232) (hsr : Kd.C (Kd.int .i64) w A2 sc.length sc) (_ : ∀ x ∈ sc, (Lit.int .i64 x).wf = true) :
    Calls Try.prog 6 #[.int .i64 n, .int .i64 first, .slice A2 sc.length c2] w fun e w' => e = .returned (.bool true) ∧ Below w.heap.size w w' := by
  by_cases h : n < 1 ∨ 1024 < n ∨ first < 1 ∨ 4194303 < first
  · exact nil_calls n first A2 c2 sc w hs hsr h
  · exact good_calls n first A2 c2 sc w hs hsr (by omega) (by omega) (by omega) (by omega)
end Go.Proofs.Ytehfbnpibimmiaa.Plays
