/- The object and its reference beside each other: what is kept, as plain data; how both lie. -/
import Derived.Test.YtehfbnpibimmiaaRtake
import Derived.Test.YtehfbnpibimmiaaRlist
namespace Go.Proofs.Ytehfbnpibimmiaa.Both
open Go.RowKit Go.Proofs.YtehfbnpibimmiaaW.PrintWords Go.Proofs.YtehfbnpibimmiaaW.PrintLast Go.Proofs.YtehfbnpibimmiaaW.PrintMore Go.Proofs.Ytehfbnpibimmiaa.Lie Go.Proofs.Ytehfbnpibimmiaa.Use Go.Proofs.Ytehfbnpibimmiaa.Take Go.Proofs.Ytehfbnpibimmiaa.Live Go.Proofs.Ytehfbnpibimmiaa.Free Go.Proofs.Ytehfbnpibimmiaa.Awake Go.Proofs.Ytehfbnpibimmiaa.List Go.Proofs.Ytehfbnpibimmiaa.Inv Go.Proofs.Ytehfbnpibimmiaa.Ref Go.Proofs.Ytehfbnpibimmiaa.Refs Go.Proofs.Ytehfbnpibimmiaa.Rtake Go.Proofs.Ytehfbnpibimmiaa.Rlist

theorem cnt_same {p q : Nat → Bool} : ∀ {x : Nat}, (∀ k, k < x → p k = q k) → cnt p x = cnt q x
  | 0, _ => rfl
  | x + 1, h => by
    unfold cnt
    rw [cnt_same (fun k hk => h k (by omega)), h x (by omega)]
theorem cnt_on {p q : Nat → Bool} {s : Nat} (hp : p s = false) (hq : q s = true) : ∀ {x : Nat}, s < x → (∀ k, k < x → k ≠ s → p k = q k) → cnt q x = cnt p x + 1
  | 0, h, _ => absurd h (by omega)
  | x + 1, hs, h => by
    unfold cnt
    by_cases e : s = x
    · subst e
      rw [cnt_same (p := p) (q := q) (fun k hk => h k (by omega) (by omega)), hp, hq]
      simp
    · rw [cnt_on hp hq (by omega) (fun k hk => h k (by omega)), h x (by omega) (by omega)]
      omega
theorem rids_cnt (G : Nat → Int) (U : Nat → Bool) : ∀ x, (rids G U x).length = cnt U x
  | 0 => rfl
  | x + 1 => by
    cases h : U x with
    | true => rw [rids_used G U x h]; simp [rids_cnt G U x, cnt, h]
    | false => rw [rids_not G U x h, rids_cnt G U x]; simp [cnt, h]
structure RI (m : M) (F : Nat → Int) (clock : Int) : Prop where
  fpos : ∀ k, k < m.gen.length → (0 < F k ↔ (k : Int) ∈ m.free)
  fle : ∀ k, k < m.gen.length → F k ≤ clock
  c0 : 0 ≤ clock
  ord : m.free.Pairwise (fun a b => F a.toNat < F b.toNat)
  cnt : m.count = (cnt m.u m.gen.length : Nat)
  room : (m.free.length : Int) + m.gen.length - m.fresh = (Rlist.cnt (free m.g m.u) m.gen.length : Nat)
theorem ri_new (n : Nat) (first : Int) : RI (M.new n first) (fun _ => 0) 0 := by
  have hu : ∀ k, (M.new n first).u k = false := fun k => by
    simp only [M.u, M.new, List.getD_eq_getElem?_getD, List.getElem?_replicate]
    by_cases hk : k < n <;> simp [hk]
  have hg : ∀ k, (M.new n first).g k = 0 := fun k => by
    simp only [M.g, M.new, List.getD_eq_getElem?_getD, List.getElem?_replicate]
    by_cases hk : k < n <;> simp [hk]
  have h0 : ∀ x, Rlist.cnt (M.new n first).u x = 0 := fun x => by
    induction x with
    | zero => rfl
    | succ x ih => unfold Rlist.cnt; rw [ih, hu]; simp
  have h1 : ∀ x, Rlist.cnt (free (M.new n first).g (M.new n first).u) x = x := fun x => by
    induction x with
    | zero => rfl
    | succ x ih => unfold Rlist.cnt; rw [ih]; simp [free, hu, hg]
  refine ⟨fun k _ => by simp [M.new], fun k _ => by omega, by omega, by simp [M.new], by rw [h0]; rfl, by rw [h1]; simp [M.new]⟩
section
variable {m : M} {F : Nat → Int} {clock : Int}
theorem ri_small (hi : Inv m) (h : RI m F clock) : 0 ≤ m.count ∧ m.count ≤ 1024 ∧ m.free.length ≤ 1024 := by
  have h1 := cnt_le m.u m.gen.length
  have h2 := cnt_le (free m.g m.u) m.gen.length
  have h3 := h.cnt
  have h4 := h.room
  have h5 := hi.fr
  have h6 := hi.big
  omega
theorem ri_fresh (hi : Inv m) (h : RI m F clock) (hf : m.free = []) (hn : m.fresh < m.gen.length) : RI m.takeFresh (fun i => if i = m.fresh.toNat then 0 else F i) clock := by
  obtain ⟨f, hfr⟩ := Int.eq_ofNat_of_zero_le hi.fr.1
  have hfn : m.fresh.toNat = f := by omega
  have gl : m.takeFresh.gen.length = m.gen.length := by simp [M.takeFresh, M.use]
  have fe : m.takeFresh.free = [] := hf
  have hh := hi.hi f (by omega)
  have hp := hi.pos
  refine { fpos := fun k hk => ?_, fle := fun k hk => ?_, c0 := h.c0, ord := by rw [fe]; exact .nil, cnt := ?_, room := ?_ }
  · rw [gl] at hk
    have := h.fpos k hk
    rw [hf] at this
    rw [fe]
    split
    · simp
    · exact this
  · rw [gl] at hk
    have := h.fle k hk
    have := h.c0
    split <;> omega
  · rw [gl, cnt_on (p := m.u) (q := m.takeFresh.u) (s := f) hh.1 (by rw [u_fresh hi hn, hfn, if_pos rfl]) (by omega) (fun k _ hk => by rw [u_fresh hi hn, hfn, if_neg hk])]
    have := h.cnt
    show m.count + 1 = _
    omega
  · have e := cnt_on (p := free m.takeFresh.g m.takeFresh.u) (q := free m.g m.u) (s := f) (x := m.gen.length) (by simp [free, u_fresh hi hn, hfn]) (by simp [free, hh.1, hh.2]) (by omega) (fun k _ hk => by simp [free, u_fresh hi hn, g_fresh hi hn, hfn, hk])
    have hr := h.room
    rw [gl, fe]
    rw [hf, e] at hr
    show ((([] : List Int).length : Int)) + m.gen.length - (m.fresh + 1) = _
    omega
theorem ri_free (hi : Inv m) (h : RI m F clock) {fs : List Int} {s : Nat} (hf : m.free = fs ++ [(s : Int)]) : RI (m.takeFree fs s) (fun i => if i = s then 0 else F i) clock := by
  obtain ⟨s', e, h1, h2, h3, h4, h5, h6⟩ := last_ok hi hf
  have : s' = s := by omega
  subst this
  have gl : (m.takeFree fs s').gen.length = m.gen.length := by simp [M.takeFree, M.use]
  have fe : (m.takeFree fs s').free = fs := rfl
  have hne : ∀ t ∈ fs, t.toNat ≠ s' := fun t ht e => by
    have := (hi.free t (by rw [hf]; exact List.mem_append_left _ ht)).1
    exact h6 (by rw [show (s' : Int) = t by omega]; exact ht)
  refine { fpos := fun k hk => ?_, fle := fun k hk => ?_, c0 := h.c0, ord := ?_, cnt := ?_, room := ?_ }
  · rw [gl] at hk
    have hk' := h.fpos k hk
    rw [fe]
    rw [hf, List.mem_append] at hk'
    split
    · rename_i e; rw [e]; exact ⟨fun q => absurd q (by omega), fun q => absurd q h6⟩
    · rename_i e
      rw [hk']
      simp
      intro q; omega
  · rw [gl] at hk
    have := h.fle k hk
    have := h.c0
    split <;> omega
  · rw [fe]
    have ho := h.ord
    rw [hf, List.pairwise_append] at ho
    refine ho.1.imp_of_mem fun {a b} ha hb hab => ?_
    rw [if_neg (hne a ha), if_neg (hne b hb)]
    exact hab
  · rw [gl, cnt_on (p := m.u) (q := (m.takeFree fs s').u) (s := s') h3 (by rw [u_free hi.ulen h2, if_pos rfl]) h2 (fun k _ hk => by rw [u_free hi.ulen h2, if_neg hk])]
    have := h.cnt
    show m.count + 1 = _
    omega
  · have e := cnt_on (p := free (m.takeFree fs s').g (m.takeFree fs s').u) (q := free m.g m.u) (s := s') (x := m.gen.length) (by simp [free, u_free hi.ulen h2]) (by simp [free, h3, h5]) h2 (fun k _ hk => by simp [free, u_free hi.ulen h2, g_free h2, hk])
    have hr := h.room
    rw [gl, fe]
    rw [hf, e] at hr
    simp at hr
    show (fs.length : Int) + m.gen.length - m.fresh = _
    omega
theorem ri_last (hi : Inv m) (h : RI m F clock) {fs : List Int} {s : Nat} (hf : m.free = fs ++ [(s : Int)]) : 0 < F s ∧ ∀ k, k < m.gen.length → k ≠ s → F k < F s := by
  obtain ⟨s', e, h1, h2, h3, h4, h5, h6⟩ := last_ok hi hf
  have : s' = s := by omega
  subst this
  have hs : 0 < F s' := (h.fpos s' h2).2 (by rw [hf]; simp)
  refine ⟨hs, fun k hk hne => ?_⟩
  by_cases hp : 0 < F k
  · have hin := (h.fpos k hk).1 hp
    rw [hf, List.mem_append] at hin
    rcases hin with q | q
    · have ho := h.ord
      rw [hf, List.pairwise_append] at ho
      have := ho.2.2 _ q (s' : Int) (by simp)
      simpa using this
    · simp at q; omega
  · omega
theorem ri_unuse (hi : Inv m) (h : RI m F clock) {s : Nat} (hu : m.u s = true) (hg : ¬ m.g s < 4194303) : RI (m.unuse s) F clock := by
  have hs := u_lt hi.ulen hu
  refine { fpos := h.fpos, fle := h.fle, c0 := h.c0, ord := h.ord, cnt := ?_, room := ?_ }
  · have e := cnt_on (p := (m.unuse s).u) (q := m.u) (s := s) (x := m.gen.length) (by rw [u_unuse hi.ulen hs, if_pos rfl]) hu hs (fun k _ hk => by rw [u_unuse hi.ulen hs, if_neg hk])
    have := h.cnt
    show m.count - 1 = ((Rlist.cnt (m.unuse s).u m.gen.length : Nat) : Int)
    omega
  · have e := cnt_same (p := free m.g m.u) (q := free (m.unuse s).g (m.unuse s).u) (x := m.gen.length) (fun k _ => by
      have hgk : (m.unuse s).g k = m.g k := rfl
      by_cases e : k = s
      · subst e; simp [free, u_unuse hi.ulen hs, hgk, hg]
      · simp [free, u_unuse hi.ulen hs, hgk, e])
    have := h.room
    show (m.free.length : Int) + m.gen.length - m.fresh = ((Rlist.cnt (free (m.unuse s).g (m.unuse s).u) m.gen.length : Nat) : Int)
    omega
theorem ri_unuseFree (hi : Inv m) (h : RI m F clock) {s : Nat} (hu : m.u s = true) (hg : m.g s < 4194303) : RI (m.unuseFree s) (fun i => if i = s then clock + 1 else F i) (clock + 1) := by
  have hs := u_lt hi.ulen hu
  have hni : (s : Int) ∉ m.free := fun hin => by
    have := (hi.free _ hin).2.2.1
    rw [Int.toNat_natCast, hu] at this; cases this
  have hc := h.c0
  have ue : ∀ k, (m.unuseFree s).u k = if k = s then false else m.u k := fun k => u_unuse hi.ulen hs k
  refine { fpos := fun k hk => ?_, fle := fun k hk => ?_, c0 := by omega, ord := ?_, cnt := ?_, room := ?_ }
  · have := h.fpos k hk
    show _ ↔ (k : Int) ∈ m.free ++ [(s : Int)]
    rw [List.mem_append]
    split
    · rename_i e; subst e; simp; omega
    · rename_i e
      rw [this]; simp
      intro q; omega
  · have := h.fle k hk
    split <;> omega
  · show (m.free ++ [(s : Int)]).Pairwise _
    rw [List.pairwise_append]
    refine ⟨h.ord.imp_of_mem fun {a b} ha hb hab => ?_, by simp, fun a ha b hb => ?_⟩
    · have na : a.toNat ≠ s := fun e => by
        have := (hi.free a ha).1
        exact hni (by rw [show (s : Int) = a by omega]; exact ha)
      have nb : b.toNat ≠ s := fun e => by
        have := (hi.free b hb).1
        exact hni (by rw [show (s : Int) = b by omega]; exact hb)
      rw [if_neg na, if_neg nb]; exact hab
    · have ha2 := hi.free a ha
      have na : a.toNat ≠ s := fun e => hni (by rw [show (s : Int) = a by omega]; exact ha)
      simp at hb
      subst hb
      rw [if_neg na, Int.toNat_natCast, if_pos rfl]
      have := h.fle a.toNat (by have := hi.fr; omega)
      omega
  · have e := cnt_on (p := (m.unuseFree s).u) (q := m.u) (s := s) (x := m.gen.length) (by rw [ue, if_pos rfl]) hu hs (fun k _ hk => by rw [ue, if_neg hk])
    have := h.cnt
    show m.count - 1 = ((Rlist.cnt (m.unuseFree s).u m.gen.length : Nat) : Int)
    omega
  · have e := cnt_on (p := free m.g m.u) (q := free (m.unuseFree s).g (m.unuseFree s).u) (s := s) (x := m.gen.length) (by simp [free, hu]) (by
      have hgk : (m.unuseFree s).g s = m.g s := rfl
      simp [free, ue, hgk, hg]) hs (fun k _ hk => by
      have hgk : (m.unuseFree s).g k = m.g k := rfl
      simp [free, ue, hgk, hk])
    have := h.room
    show ((m.free ++ [(s : Int)]).length : Int) + m.gen.length - m.fresh = ((Rlist.cnt (free (m.unuseFree s).g (m.unuseFree s).u) m.gen.length : Nat) : Int)
    simp
    omega
end
/-! ### How both lie -/
structure Two (w0 W : World) (sb gb ub rb lb : Nat) (fv v : Value) (m mr : M) (F : Nat → Int) (clock : Int) (had : List Int) : Prop where
  on : On w0 W sb gb ub fv m
  ref : RLies W w0.heap.size rb lb mr.first mr.gen.length mr.g mr.u F clock
  had : W.ownsRow w0.heap.size 23 1 v had.length (nums .u32 had)
section
variable {w0 W W1 : World} {sb gb ub rb lb : Nat} {fv fv' v v' : Value} {m mr m' : M} {F F' : Nat → Int} {clock clock' : Int} {had : List Int}
theorem two_sep (h : Two w0 W sb gb ub rb lb fv v m mr F clock had) : (∀ k, Own sb gb ub fv k → ¬ ROwn rb lb k) ∧ (∀ k, v.ownBlock = some k → ¬ Own sb gb ub fv k ∧ ¬ ROwn rb lb k) := by
  have h1 := h.on.lies
  obtain ⟨cs, hc, _⟩ := h.ref.row
  have ho := h.ref.obj
  have ty : ∀ k, Own sb gb ub fv k → ∃ (cs : Array Value) (t : Nat), W.heap[k]? = some (.cells cs t (0, 0)) ∧ t < 60 ∧ t ≠ 23 := by
    rintro k (e | e | e | e)
    · subst e; exact ⟨_, 59, h1.obj, by omega, by omega⟩
    · subst e; exact ⟨_, 3, h1.gen, by omega, by omega⟩
    · subst e; exact ⟨_, 4, h1.used, by omega, by omega⟩
    · obtain ⟨cs, hc⟩ := own_typed h1.free k e
      exact ⟨cs, 3, hc, by omega, by omega⟩
  have tr : ∀ k, ROwn rb lb k → ∃ (cs : Array Value) (t : Nat), W.heap[k]? = some (.cells cs t (0, 0)) ∧ 60 < t := by
    rintro k (e | e)
    · subst e; exact ⟨_, 63, ho, by omega⟩
    · subst e; exact ⟨_, 65, hc, by omega⟩
  refine ⟨fun k h1 h2 => ?_, fun k hk => ?_⟩
  · obtain ⟨_, t1, e1, l1, _⟩ := ty k h1
    obtain ⟨_, t2, e2, l2⟩ := tr k h2
    rw [e1] at e2
    simp at e2
    have e : (t1 : Nat) = t2 := e2.2
    omega
  · obtain ⟨cs, hc⟩ := own_typed h.had k hk
    refine ⟨fun q => ?_, fun q => ?_⟩
    · obtain ⟨_, t1, e1, _, l1⟩ := ty k q
      rw [hc] at e1
      simp at e1
      have e : (23 : Nat) = t1 := e1.2
      omega
    · obtain ⟨_, t1, e1, l1⟩ := tr k q
      rw [hc] at e1
      simp at e1
      have e : (23 : Nat) = t1 := e1.2
      omega
theorem two_lib (h : Two w0 W sb gb ub rb lb fv v m mr F clock had) (ho : On w0 W1 sb gb ub fv' m') (ht : Turns (Own sb gb ub fv) W W1) : Two w0 W1 sb gb ub rb lb fv' v m' mr F clock had := by
  obtain ⟨s1, s2⟩ := two_sep h
  exact ⟨ho, r_turns h.ref ht (fun k hk hO => s1 k hO hk), own_kept h.had fun g hg => ht.block g (own_lt h.had g hg) (s2 g hg).1⟩
theorem two_ref (h : Two w0 W sb gb ub rb lb fv v m mr F clock had) (hr : RLies W1 w0.heap.size rb lb m'.first m'.gen.length m'.g m'.u F' clock') (ht : Turns (ROwn rb lb) W W1) : Two w0 W1 sb gb ub rb lb fv v m m' F' clock' had := by
  obtain ⟨s1, s2⟩ := two_sep h
  have hl := lies_turns h.on.lies ht s1
  refine ⟨⟨hl, Turns.below h.on.below ht fun i hi => ?_⟩, hr, own_kept h.had fun g hg => ht.block g (own_lt h.had g hg) (s2 g hg).2⟩
  rcases hi with e | e
  · subst e; exact h.ref.lb.1
  · subst e; exact h.ref.lb.2
theorem two_below (h : Two w0 W sb gb ub rb lb fv v m mr F clock had) (hb : Below W.heap.size W W1) : Two w0 W1 sb gb ub rb lb fv v m mr F clock had :=
  ⟨on_below h.on hb, r_below h.ref hb, pw_own_below h.had hb⟩
theorem two_had {had' : List Int} (h : Two w0 W sb gb ub rb lb fv v m mr F clock had) (hg : W.grownBy W1 v.ownBlock) (ho : W1.ownsRow w0.heap.size 23 1 v' had'.length (nums .u32 had')) : Two w0 W1 sb gb ub rb lb fv v' m mr F clock had' := by
  obtain ⟨s1, s2⟩ := two_sep h
  have ht : Turns (fun k => v.ownBlock = some k) W W1 := ⟨hg.os, hg.tape, hg.output, hg.size, fun k hk hne => hg.block k hk (Ne.symm hne)⟩
  refine ⟨⟨lies_turns h.on.lies ht fun k hk e => (s2 k e).1 hk, Turns.below h.on.below ht fun i hi => own_base h.had i hi⟩, r_turns h.ref ht fun k hk e => (s2 k e).2 hk, ho⟩
end
/-- At a round's head, and wherever both have taken the same steps. -/
structure PSt (w0 W : World) (sb gb ub rb lb : Nat) (fv v : Value) (m : M) (F : Nat → Int) (clock : Int) (had : List Int) (x : Int) : Prop where
  two : Two w0 W sb gb ub rb lb fv v m m F clock had
  inv : Inv m
  ri : RI m F clock
  wf : ∀ id ∈ had, 0 ≤ id ∧ id < 4294967296
  cx : clock ≤ x
  hx : had.length ≤ x
section
variable {w0 W W1 : World} {sb gb ub rb lb : Nat} {fv v : Value} {m : M} {F : Nat → Int} {clock : Int} {had : List Int} {x : Int}
theorem p_below (h : PSt w0 W sb gb ub rb lb fv v m F clock had x) (hb : Below W.heap.size W W1) : PSt w0 W1 sb gb ub rb lb fv v m F clock had x := { h with two := two_below h.two hb }
theorem p_more (h : PSt w0 W sb gb ub rb lb fv v m F clock had x) : PSt w0 W sb gb ub rb lb fv v m F clock had (x + 1) := { h with cx := by have := h.cx; omega, hx := by have := h.hx; omega }
theorem p_gen (h : PSt w0 W sb gb ub rb lb fv v m F clock had x) : ∀ k, k < m.gen.length → 0 ≤ m.g k ∧ m.g k ≤ 4194303 := fun k hk => by
  by_cases e : (k : Int) < m.fresh
  · have := h.inv.lo k e; omega
  · have := (h.inv.hi k (by omega)).2; omega
theorem p_gen0 (h : PSt w0 W sb gb ub rb lb fv v m F clock had x) (k : Nat) : m.g k = 0 ↔ m.fresh ≤ k := by
  by_cases e : (k : Int) < m.fresh
  · have := h.inv.lo k e; omega
  · have := (h.inv.hi k (by omega)).2; omega
theorem p_freed (h : PSt w0 W sb gb ub rb lb fv v m F clock had x) : ∀ k, k < m.gen.length → 0 < F k → m.g k < 4194303 ∧ m.g k ≠ 0 := fun k hk hf => by
  have hin := (h.ri.fpos k hk).1 hf
  obtain ⟨_, h1, _, h3⟩ := h.inv.free _ hin
  rw [Int.toNat_natCast] at h3
  have := h.inv.lo k h1
  omega
end
/-- Behind the object's Take, ahead of the reference's. -/
def TMid (w0 W : World) (sb gb ub rb lb : Nat) (v : Value) (F : Nat → Int) (clock : Int) (had : List Int) (x : Int) (id er : Int) : Prop :=
  ∃ (fv' : Value) (m m' : M), Two w0 W sb gb ub rb lb fv' v m' m F clock had ∧ (∃ W0 fv, PSt w0 W0 sb gb ub rb lb fv v m F clock had x) ∧ 0 ≤ id ∧ id < 4294967296 ∧
    ((m' = m ∧ m.free = [] ∧ m.fresh = m.gen.length ∧ id = 0 ∧ er = 8) ∨ (m' = m.takeFresh ∧ m.free = [] ∧ m.fresh < m.gen.length ∧ id = m.first * 1024 + m.fresh ∧ er = 0) ∨
      ∃ fs s, m' = m.takeFree fs s ∧ m.free = fs ++ [(s : Int)] ∧ id = (m.g s + 1) * 1024 + s ∧ er = 0)
theorem lib_take {w0 w : World} {sb gb ub rb lb : Nat} {fv v : Value} {m : M} {F : Nat → Int} {clock : Int} {had : List Int} {x : Int} (h : PSt w0 w sb gb ub rb lb fv v m F clock had x) :
    Calls Try.prog 15 #[.pointer (some ⟨sb, 0, none⟩)] w fun e w' => ∃ id er, e = .returned (.tuple #[.int .u32 id, .int .i64 er]) ∧ TMid w0 w' sb gb ub rb lb v F clock had x id er := by
  have hi := h.inv
  have hp := hi.pos
  have hf := hi.fr
  have hb := hi.big
  obtain ⟨s1, s2, s3⟩ := ri_small hi h.ri
  rcases List.eq_nil_or_concat m.free with hnil | ⟨fs, t, hfs⟩
  · by_cases hn : m.fresh = m.gen.length
    · refine (take_full h.two.on.lies hnil hn).mono ?_
      rintro e w' ⟨rfl, hd⟩
      exact ⟨0, 8, rfl, fv, m, m, two_below h.two hd.below, ⟨w, fv, h⟩, by omega, by omega, .inl ⟨rfl, hnil, hn, rfl, rfl⟩⟩
    · refine (take_fresh_on h.two.on (m.first * 1024 + m.fresh) rfl rfl hi.ulen hi.big hnil hf.1 (by omega) hp.1 hp.2 (by omega) (by omega)).mono ?_
      rintro e w' ⟨rfl, ho, ht⟩
      exact ⟨_, 0, rfl, fv, m, _, two_lib h.two ho ht, ⟨w, fv, h⟩, by omega, by omega, .inr (.inl ⟨rfl, hnil, by omega, rfl, rfl⟩)⟩
  · rw [List.concat_eq_append] at hfs
    obtain ⟨s, rfl, h1, h2, h3, h4, h5, h6⟩ := last_ok hi hfs
    have hl : fs.length + 1 = m.free.length := by rw [hfs]; simp
    refine (take_free_on h.two.on fs s ((m.g s + 1) * 1024 + s) rfl rfl hfs hi.ulen hi.big h2 (by omega) (show 0 ≤ m.g s by omega) h5 (by omega) (by omega)).mono ?_
    rintro e w' ⟨rfl, fv', ho, _, ht⟩
    exact ⟨_, 0, rfl, fv', m, _, two_lib h.two ho ht, ⟨w, fv, h⟩, by omega, by omega, .inr (.inr ⟨fs, s, rfl, hfs, rfl, rfl⟩)⟩
theorem ref_take {w0 w : World} {sb gb ub rb lb : Nat} {v : Value} {F : Nat → Int} {clock : Int} {had : List Int} {x id er : Int} (h : TMid w0 w sb gb ub rb lb v F clock had x id er) :
    Calls Try.prog 22 #[.pointer (some ⟨rb, 0, none⟩)] w fun e w' => e = .returned (.tuple #[.int .u32 id, .int .i64 er]) ∧ ∃ fv' m' F', PSt w0 w' sb gb ub rb lb fv' v m' F' clock had x := by
  obtain ⟨fv', m, m', ht, ⟨W0, fv, hp⟩, i0, i1, hc⟩ := h
  have hi := hp.inv
  rcases hc with ⟨rfl, hf, hn, rfl, rfl⟩ | ⟨rfl, hf, hn, rfl, rfl⟩ | ⟨fs, s, rfl, hf, rfl, rfl⟩
  · have hF : ∀ k, k < m'.gen.length → F k ≤ 0 := fun k hk => by
      have := hp.ri.fpos k hk
      rw [hf] at this; simp at this; omega
    refine (rtake_full ht.ref hi.big hi.pos.1 hi.pos.2 (p_gen hp) hF (fun k hk e => by have := (p_gen0 hp k).1 e; omega)).mono ?_
    rintro e w' ⟨rfl, hb⟩
    exact ⟨rfl, fv', m', F, { hp with two := two_below ht hb }⟩
  · have hF : ∀ k, k < m.gen.length → F k ≤ 0 := fun k hk => by
      have := hp.ri.fpos k hk
      rw [hf] at this; simp at this; omega
    obtain ⟨f, hfr⟩ := Int.eq_ofNat_of_zero_le hi.fr.1
    have hfn : m.fresh.toNat = f := by omega
    refine (rtake_fresh f (m.first * 1024 + m.fresh) ht.ref hi.big hi.pos.1 hi.pos.2 (p_gen hp) (by omega) hF ((p_gen0 hp f).2 (by omega)) (fun k hk e => by have := (p_gen0 hp k).1 e; omega) (by omega)).mono ?_
    rintro e w' ⟨rfl, hr, htn⟩
    have eg : (fun i => if i = f then m.first else m.g i) = m.takeFresh.g := funext fun i => by rw [g_fresh hi hn, hfn]
    have eu : (fun i => if i = f then true else m.u i) = m.takeFresh.u := funext fun i => by rw [u_fresh hi hn, hfn]
    rw [eg, eu] at hr
    have gl : m.takeFresh.gen.length = m.gen.length := by simp [M.takeFresh, M.use]
    have hri := ri_fresh hi hp.ri hf hn
    rw [hfn] at hri
    exact ⟨rfl, fv', _, _, two_ref (m' := m.takeFresh) ht (by rw [gl]; exact hr) htn, inv_fresh hi hf hn, hri, hp.wf, hp.cx, hp.hx⟩
  · obtain ⟨s', e, h1, h2, h3, h4, h5, h6⟩ := last_ok hi hf
    have : s' = s := by omega
    subst this
    obtain ⟨l1, l2⟩ := ri_last hi hp.ri hf
    refine (rtake_free s' ((m.g s' + 1) * 1024 + s') ht.ref hi.big hi.pos.1 hi.pos.2 (p_gen hp) (p_freed hp) h2 l1 l2 rfl).mono ?_
    rintro e w' ⟨rfl, hr, htn⟩
    have eg : (fun i => if i = s' then m.g s' + 1 else m.g i) = (m.takeFree fs s').g := funext fun i => by rw [g_free h2]
    have eu : (fun i => if i = s' then true else m.u i) = (m.takeFree fs s').u := funext fun i => by rw [u_free hi.ulen h2]
    rw [eg, eu] at hr
    have gl : (m.takeFree fs s').gen.length = m.gen.length := by simp [M.takeFree, M.use]
    exact ⟨rfl, fv', _, _, two_ref (m' := m.takeFree fs s') ht (by rw [gl]; exact hr) htn, inv_free hi hf, ri_free hi hp.ri hf, hp.wf, hp.cx, hp.hx⟩
theorem live_iff {m : M} {id : Int} : isLive m.gen.length m.g m.u id ↔ m.live id = true := by
  constructor
  · rintro ⟨h1, h2, h3⟩
    unfold M.live
    rw [if_pos h1, if_pos (show m.used.getD (id % 1024).toNat false = true from h2)]
    rw [beq_iff_eq]
    exact h3
  · intro h
    obtain ⟨h1, h2, h3⟩ := live_is' h
    exact ⟨h1, h2, h3⟩
/-- Behind the object's Free, ahead of the reference's. -/
def FMid (w0 W : World) (sb gb ub rb lb : Nat) (v : Value) (F : Nat → Int) (clock : Int) (had : List Int) (x : Int) (id er : Int) : Prop :=
  ∃ (fv' : Value) (m m' : M), Two w0 W sb gb ub rb lb fv' v m' m F clock had ∧ (∃ W0 fv, PSt w0 W0 sb gb ub rb lb fv v m F clock had x) ∧
    ((m' = m ∧ m.live id = false ∧ er = 7) ∨ (m' = m.unuseFree (id % 1024).toNat ∧ m.live id = true ∧ id / 1024 < 4194303 ∧ er = 0) ∨ (m' = m.unuse (id % 1024).toNat ∧ m.live id = true ∧ ¬ id / 1024 < 4194303 ∧ er = 0))
theorem lib_free {w0 w : World} {sb gb ub rb lb : Nat} {fv v : Value} {m : M} {F : Nat → Int} {clock : Int} {had : List Int} {x : Int} (h : PSt w0 w sb gb ub rb lb fv v m F clock had x) (id : Int) (i0 : 0 ≤ id) (i1 : id < 4294967296) :
    Calls Try.prog 16 #[.pointer (some ⟨sb, 0, none⟩), .int .u32 id] w fun e w' => ∃ er, e = .returned (.int .i64 er) ∧ FMid w0 w' sb gb ub rb lb v F clock had x id er := by
  have hi := h.inv
  obtain ⟨s1, s2, s3⟩ := ri_small hi h.ri
  have hs : id % 1024 = ((id % 1024).toNat : Int) := by omega
  cases hd : m.live id with
  | false =>
    refine (free_dead h.two.on.lies id i0 i1 hi.ulen hd).mono ?_
    rintro e w' ⟨rfl, hd'⟩
    exact ⟨7, rfl, fv, m, m, two_below h.two hd'.below, ⟨w, fv, h⟩, .inl ⟨rfl, hd, rfl⟩⟩
  | true =>
    obtain ⟨l1, l2, l3⟩ := live_is' hd
    by_cases hg : id / 1024 < 4194303
    · refine (free_on h.two.on id (id % 1024).toNat rfl i0 i1 hi.ulen hd hs (by omega) (by omega) (by omega) (by omega) hg).mono ?_
      rintro e w' ⟨rfl, fv', ho, _, ht⟩
      exact ⟨0, rfl, fv', m, _, two_lib h.two ho ht, ⟨w, fv, h⟩, .inr (.inl ⟨rfl, hd, hg, rfl⟩)⟩
    · refine (free_worn h.two.on.lies id i0 i1 hi.ulen hd (id % 1024).toNat hs (by omega) (by omega) (by omega) hg).mono ?_
      rintro e w' ⟨rfl, hl, ht⟩
      exact ⟨0, rfl, fv, m, _, two_lib h.two (on_turns h.two.on hl ht) ht, ⟨w, fv, h⟩, .inr (.inr ⟨rfl, hd, hg, rfl⟩)⟩
theorem ref_free {w0 w : World} {sb gb ub rb lb : Nat} {v : Value} {F : Nat → Int} {clock : Int} {had : List Int} {x id er : Int} (h : FMid w0 w sb gb ub rb lb v F clock had x id er) (hx : x ≤ 1000) (i0 : 0 ≤ id) (i1 : id < 4294967296) :
    Calls Try.prog 23 #[.pointer (some ⟨rb, 0, none⟩), .int .u32 id] w fun e w' => e = .returned (.int .i64 er) ∧ ∃ fv' m' F' clock', PSt w0 w' sb gb ub rb lb fv' v m' F' clock' had (x + 1) := by
  obtain ⟨fv', m, m', ht, ⟨W0, fv, hp⟩, hc⟩ := h
  have hi := hp.inv
  have hcx := hp.cx
  have hhx := hp.hx
  have hs : id % 1024 = ((id % 1024).toNat : Int) := by omega
  rcases hc with ⟨rfl, hd, rfl⟩ | ⟨rfl, hd, hg, rfl⟩ | ⟨rfl, hd, hg, rfl⟩
  · refine (rfree_dead ht.ref hi.big id i0 i1 (fun e => by rw [live_iff, hd] at e; cases e)).mono ?_
    rintro e w' ⟨rfl, hb⟩
    exact ⟨rfl, fv', m', F, clock, { (p_more hp) with two := two_below ht hb }⟩
  · obtain ⟨l1, l2, l3⟩ := live_is' hd
    refine (rfree_live ht.ref hi.big id i0 i1 (live_iff.2 hd) (id % 1024).toNat hs hp.ri.c0 (by omega) hg).mono ?_
    rintro e w' ⟨rfl, hr, htn⟩
    have eu : (fun i => if i = (id % 1024).toNat then false else m.u i) = (m.unuseFree (id % 1024).toNat).u := funext fun i => (u_unuse hi.ulen (by omega) i).symm
    rw [eu] at hr
    exact ⟨rfl, fv', _, _, _, two_ref (m' := m.unuseFree (id % 1024).toNat) ht hr htn, inv_unuseFree hi l2 (by omega), ri_unuseFree hi hp.ri l2 (by omega), hp.wf, by omega, by omega⟩
  · obtain ⟨l1, l2, l3⟩ := live_is' hd
    refine (rfree_worn ht.ref hi.big id i0 i1 (live_iff.2 hd) (id % 1024).toNat hs hg).mono ?_
    rintro e w' ⟨rfl, hr, htn⟩
    have eu : (fun i => if i = (id % 1024).toNat then false else m.u i) = (m.unuse (id % 1024).toNat).u := funext fun i => (u_unuse hi.ulen (by omega) i).symm
    rw [eu] at hr
    exact ⟨rfl, fv', _, _, _, two_ref (m' := m.unuse (id % 1024).toNat) ht hr htn, inv_unuse hi l2 (by omega), ri_unuse hi hp.ri l2 (by omega), hp.wf, by omega, by omega⟩
end Go.Proofs.Ytehfbnpibimmiaa.Both
