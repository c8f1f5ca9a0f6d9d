/- What always holds of the slots' object, as plain data: kept by a Take and by a Free. No program in sight. -/
import Derived.Test.YtehfbnpibimmiaaList
namespace Go.Proofs.Ytehfbnpibimmiaa.Inv
open Go.RowKit Go.Proofs.YtehfbnpibimmiaaW.PrintWords Go.Proofs.Ytehfbnpibimmiaa.Lie Go.Proofs.Ytehfbnpibimmiaa.Use Go.Proofs.Ytehfbnpibimmiaa.Take Go.Proofs.Ytehfbnpibimmiaa.Live Go.Proofs.Ytehfbnpibimmiaa.Free Go.Proofs.Ytehfbnpibimmiaa.List

def _root_.Go.Proofs.Ytehfbnpibimmiaa.Lie.M.g (m : M) (k : Nat) : Int := m.gen.getD k 0
def _root_.Go.Proofs.Ytehfbnpibimmiaa.Lie.M.u (m : M) (k : Nat) : Bool := m.used.getD k false
structure Inv (m : M) : Prop where
  ulen : m.used.length = m.gen.length
  big : m.gen.length ≤ 1024
  pos : 1 ≤ m.first ∧ m.first ≤ 4194303
  fr : 0 ≤ m.fresh ∧ m.fresh ≤ m.gen.length
  free : ∀ s ∈ m.free, 0 ≤ s ∧ s < m.fresh ∧ m.u s.toNat = false ∧ m.g s.toNat < 4194303
  nodup : m.free.Nodup
  lo : ∀ k : Nat, (k : Int) < m.fresh → 1 ≤ m.g k ∧ m.g k ≤ 4194303
  hi : ∀ k : Nat, m.fresh ≤ k → m.u k = false ∧ m.g k = 0
  cover : ∀ k : Nat, (k : Int) < m.fresh → m.u k = false → m.g k < 4194303 → (k : Int) ∈ m.free

theorem g_set (l : List Int) (i k : Nat) (x : Int) (h : i < l.length) : (l.set i x).getD k 0 = if k = i then x else l.getD k 0 := by
  by_cases e : k = i
  · subst e; simp [List.getD_eq_getElem?_getD, h]
  · rw [if_neg e]; simp [List.getD_eq_getElem?_getD, List.getElem?_set_ne (Ne.symm e)]
theorem u_set (l : List Bool) (i k : Nat) (x : Bool) (h : i < l.length) : (l.set i x).getD k false = if k = i then x else l.getD k false := by
  by_cases e : k = i
  · subst e; simp [List.getD_eq_getElem?_getD, h]
  · rw [if_neg e]; simp [List.getD_eq_getElem?_getD, List.getElem?_set_ne (Ne.symm e)]
theorem u_lt {m : M} (h : m.used.length = m.gen.length) {k : Nat} (hu : m.u k = true) : k < m.gen.length := by
  apply Nat.lt_of_not_le
  intro hle
  unfold M.u at hu
  rw [List.getD_eq_getElem?_getD, List.getElem?_eq_none (by omega)] at hu
  simp at hu
theorem inv_new (n : Nat) (first : Int) (h : n ≤ 1024) (h1 : 1 ≤ first) (h2 : first ≤ 4194303) : Inv (M.new n first) where
  ulen := by simp [M.new]
  big := by simpa [M.new] using h
  pos := ⟨h1, h2⟩
  fr := by simp [M.new]
  free := by simp [M.new]
  nodup := by simp [M.new]
  lo := fun k hk => by simp [M.new] at hk; omega
  hi := fun k _ => by
    simp only [M.u, M.g, M.new, List.getD_eq_getElem?_getD, List.getElem?_replicate]
    by_cases hk : k < n <;> simp [hk]
  cover := fun k hk => by simp [M.new] at hk; omega

/-! ### Take: a fresh slot -/
theorem g_fresh {m : M} (h : Inv m) (hn : m.fresh < m.gen.length) (k : Nat) : m.takeFresh.g k = if k = m.fresh.toNat then m.first else m.g k := by
  have := h.fr.1
  simp only [M.takeFresh, M.use, M.g]; exact g_set _ _ _ _ (by omega)
theorem u_fresh {m : M} (h : Inv m) (hn : m.fresh < m.gen.length) (k : Nat) : m.takeFresh.u k = if k = m.fresh.toNat then true else m.u k := by
  have := h.fr.1
  have := h.ulen
  simp only [M.takeFresh, M.use, M.u]; exact u_set _ _ _ _ (by omega)
theorem inv_fresh {m : M} (h : Inv m) (hf : m.free = []) (hn : m.fresh < m.gen.length) : Inv m.takeFresh := by
  obtain ⟨f, hfr⟩ := Int.eq_ofNat_of_zero_le h.fr.1
  have hfn : m.fresh.toNat = f := by omega
  have fe : m.takeFresh.fresh = m.fresh + 1 := rfl
  have fl : m.takeFresh.free = [] := hf
  have gl : m.takeFresh.gen.length = m.gen.length := by simp [M.takeFresh, M.use]
  refine { ulen := by rw [gl]; simp [M.takeFresh, M.use, h.ulen], big := by rw [gl]; exact h.big, pos := h.pos, fr := by rw [fe, gl]; omega, free := by simp [fl], nodup := by simp [fl], lo := ?_, hi := ?_, cover := ?_ }
  · intro k hk
    rw [fe] at hk
    rw [g_fresh h hn]
    split
    · exact h.pos
    · exact h.lo k (by omega)
  · intro k hk
    rw [fe] at hk
    rw [g_fresh h hn, u_fresh h hn, if_neg (by omega), if_neg (by omega)]
    exact h.hi k (by omega)
  · intro k hk hu hg
    rw [fe] at hk
    rw [u_fresh h hn] at hu
    rw [g_fresh h hn] at hg
    by_cases e : k = m.fresh.toNat
    · rw [if_pos e] at hu; cases hu
    · rw [if_neg e] at hu hg
      have := h.cover k (by omega) hu hg
      rw [hf] at this
      cases this
/-! ### Take: a freed slot -/
theorem last_ok {m : M} (h : Inv m) {fs : List Int} {t : Int} (hf : m.free = fs ++ [t]) : ∃ s : Nat, t = s ∧ (s : Int) < m.fresh ∧ s < m.gen.length ∧ m.u s = false ∧ 1 ≤ m.g s ∧ m.g s < 4194303 ∧ (s : Int) ∉ fs := by
  have hm : t ∈ m.free := by rw [hf]; simp
  obtain ⟨h0, h1, h2, h4⟩ := h.free t hm
  obtain ⟨s, rfl⟩ := Int.eq_ofNat_of_zero_le h0
  have := h.fr.2
  rw [Int.toNat_natCast] at h2 h4
  refine ⟨s, rfl, h1, by omega, h2, (h.lo s h1).1, h4, ?_⟩
  have hd := h.nodup
  rw [hf, List.nodup_append] at hd
  intro hin
  exact hd.2.2 _ hin _ (by simp) rfl
theorem g_free {m : M} {fs : List Int} {s : Nat} (hs : s < m.gen.length) (k : Nat) : (m.takeFree fs s).g k = if k = s then m.g s + 1 else m.g k := by
  simp only [M.takeFree, M.use, M.g]; exact g_set _ _ _ _ hs
theorem u_free {m : M} (hl : m.used.length = m.gen.length) {fs : List Int} {s : Nat} (hs : s < m.gen.length) (k : Nat) : (m.takeFree fs s).u k = if k = s then true else m.u k := by
  simp only [M.takeFree, M.use, M.u]; exact u_set _ _ _ _ (by omega)
theorem inv_free {m : M} (h : Inv m) {fs : List Int} {s : Nat} (hf : m.free = fs ++ [(s : Int)]) : Inv (m.takeFree fs s) := by
  obtain ⟨s', e, h1, h2, h3, h4, h5, h6⟩ := last_ok h hf
  have : s' = s := by omega
  subst this
  have fe : (m.takeFree fs s').fresh = m.fresh := rfl
  have fl : (m.takeFree fs s').free = fs := rfl
  have gl : (m.takeFree fs s').gen.length = m.gen.length := by simp [M.takeFree, M.use]
  have hd := h.nodup
  rw [hf, List.nodup_append] at hd
  refine { ulen := by rw [gl]; simp [M.takeFree, M.use, h.ulen], big := by rw [gl]; exact h.big, pos := h.pos, fr := by rw [fe, gl]; exact h.fr, free := ?_, nodup := by rw [fl]; exact hd.1, lo := ?_, hi := ?_, cover := ?_ }
  · intro t ht
    rw [fl] at ht
    obtain ⟨q0, q1, q2, q4⟩ := h.free t (by rw [hf]; exact List.mem_append_left _ ht)
    have hne : t.toNat ≠ s' := fun e => h6 (by have : t = s' := by omega
                                               rw [← this]; exact ht)
    rw [g_free h2, u_free h.ulen h2, if_neg hne, if_neg hne]
    exact ⟨q0, q1, q2, q4⟩
  · intro k hk
    rw [fe] at hk
    have := h.lo k hk
    rw [g_free h2]
    split
    · omega
    · exact this
  · intro k hk
    rw [fe] at hk
    rw [g_free h2, u_free h.ulen h2, if_neg (by omega), if_neg (by omega)]
    exact h.hi k hk
  · intro k hk hu hg
    rw [fe] at hk
    rw [u_free h.ulen h2] at hu
    rw [g_free h2] at hg
    by_cases e : k = s'
    · rw [if_pos e] at hu; cases hu
    · rw [if_neg e] at hu hg
      have := h.cover k hk hu hg
      rw [hf, List.mem_append] at this
      rw [fl]
      rcases this with q | q
      · exact q
      · simp at q; omega
/-! ### Free -/
theorem live_is' {m : M} {id : Int} (h : m.live id = true) : id % 1024 < m.gen.length ∧ m.u (id % 1024).toNat = true ∧ m.g (id % 1024).toNat = id / 1024 := by
  unfold M.live at h
  split at h
  · split at h
    · exact ⟨by assumption, by assumption, by simpa [M.g] using h⟩
    · cases h
  · cases h
theorem live_of {m : M} (hi : Inv m) {k : Nat} (hu : m.u k = true) : m.live (m.g k * 1024 + k) = true ∧ 0 ≤ m.g k * 1024 + k ∧ m.g k * 1024 + k < 4294967296 ∧ (m.g k * 1024 + k) % 1024 = k ∧ (m.g k * 1024 + k) / 1024 = m.g k ∧ k < m.gen.length ∧ (k : Int) < m.fresh := by
  have hk := u_lt hi.ulen hu
  have hb := hi.big
  have hf : (k : Int) < m.fresh := by
    apply Int.not_le.1
    intro hle
    have := (hi.hi k hle).1
    rw [hu] at this; cases this
  have hg := hi.lo k hf
  have e1 : (m.g k * 1024 + (k : Int)) % 1024 = k := by omega
  have e2 : (m.g k * 1024 + (k : Int)) / 1024 = m.g k := by omega
  refine ⟨?_, by omega, by omega, e1, e2, hk, hf⟩
  unfold M.live
  rw [e1, e2, Int.toNat_natCast, if_pos (by omega), if_pos (show m.used.getD k false = true from hu)]
  simp [M.g]
theorem u_unuse {m : M} (hl : m.used.length = m.gen.length) {s : Nat} (hs : s < m.gen.length) (k : Nat) : (m.unuse s).u k = if k = s then false else m.u k := by
  simp only [M.unuse, M.u]; exact u_set _ _ _ _ (by omega)
theorem inv_unuse {m : M} (h : Inv m) {s : Nat} (hu : m.u s = true) (hg : ¬ m.g s < 4194303) : Inv (m.unuse s) := by
  have hs := u_lt h.ulen hu
  refine { ulen := by simp [M.unuse, h.ulen], big := h.big, pos := h.pos, fr := h.fr, free := ?_, nodup := h.nodup, lo := h.lo, hi := ?_, cover := ?_ }
  · intro t ht
    obtain ⟨q0, q1, q2, q4⟩ := h.free t ht
    refine ⟨q0, q1, ?_, q4⟩
    rw [u_unuse h.ulen hs]; split
    · rfl
    · exact q2
  · intro k hk
    refine ⟨?_, (h.hi k hk).2⟩
    rw [u_unuse h.ulen hs]; split
    · rfl
    · exact (h.hi k hk).1
  · intro k hk hu' hg'
    rw [u_unuse h.ulen hs] at hu'
    by_cases e : k = s
    · subst e; exact absurd hg' hg
    · rw [if_neg e] at hu'; exact h.cover k hk hu' hg'
theorem inv_unuseFree {m : M} (h : Inv m) {s : Nat} (hu : m.u s = true) (hg : m.g s < 4194303) : Inv (m.unuseFree s) := by
  have hs := u_lt h.ulen hu
  have hsf : (s : Int) < m.fresh := (live_of h hu).2.2.2.2.2.2
  have ue : ∀ k, (m.unuseFree s).u k = if k = s then false else m.u k := fun k => u_unuse h.ulen hs k
  have fl : (m.unuseFree s).free = m.free ++ [(s : Int)] := rfl
  have hni : (s : Int) ∉ m.free := fun hin => by
    have := (h.free _ hin).2.2.1
    rw [Int.toNat_natCast, hu] at this; cases this
  refine { ulen := by simp [M.unuseFree, M.unuse, h.ulen], big := h.big, pos := h.pos, fr := h.fr, free := ?_, nodup := ?_, lo := h.lo, hi := ?_, cover := ?_ }
  · intro t ht
    rw [fl, List.mem_append] at ht
    rcases ht with ht | ht
    · obtain ⟨q0, q1, q2, q4⟩ := h.free t ht
      refine ⟨q0, q1, ?_, q4⟩
      rw [ue]; split
      · rfl
      · exact q2
    · simp at ht
      subst ht
      refine ⟨by omega, hsf, ?_, by rw [Int.toNat_natCast]; exact hg⟩
      rw [ue, Int.toNat_natCast, if_pos rfl]
  · rw [fl, List.nodup_append]
    exact ⟨h.nodup, by simp, fun a ha b hb => by simp at hb; subst hb; exact fun e => hni (e ▸ ha)⟩
  · intro k hk
    refine ⟨?_, (h.hi k hk).2⟩
    rw [ue]; split
    · rfl
    · exact (h.hi k hk).1
  · intro k hk hu' hg'
    rw [ue] at hu'
    rw [fl, List.mem_append]
    by_cases e : k = s
    · subst e; right; simp
    · rw [if_neg e] at hu'; exact .inl (h.cover k hk hu' hg')
/-- What is in the list is in use. -/
theorem mem_ids {m : M} {x : Nat} {id : Int} (h : id ∈ m.ids x) : ∃ k : Nat, k < x ∧ m.u k = true ∧ id = m.g k * 1024 + k := by
  unfold M.ids at h
  rw [List.mem_filterMap] at h
  obtain ⟨k, hk, he⟩ := h
  by_cases hu : m.used.getD k false = true
  · rw [if_pos hu] at he
    exact ⟨k, by simpa using hk, hu, by injection he with he; exact he.symm⟩
  · rw [if_neg hu] at he; cases he
theorem used_gen {m : M} (h : Inv m) : ∀ s, m.used.getD s false = true → 1 ≤ m.gen.getD s 0 ∧ m.gen.getD s 0 ≤ 4194303 := fun s hu => h.lo s (live_of h hu).2.2.2.2.2.2
end Go.Proofs.Ytehfbnpibimmiaa.Inv
