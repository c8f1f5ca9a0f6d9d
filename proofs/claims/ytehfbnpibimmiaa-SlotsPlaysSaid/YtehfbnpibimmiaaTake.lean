/- Contracts of the slots' Take (function 15): nil; a freed slot; a fresh one; none. -/
import Derived.Test.YtehfbnpibimmiaaUse
namespace Go.Proofs.Ytehfbnpibimmiaa.Take
open Go.RowKit Go.Proofs.YtehfbnpibimmiaaW.PrintWords Go.Proofs.YtehfbnpibimmiaaW.PrintLast Go.Proofs.YtehfbnpibimmiaaW.PrintMore Go.Proofs.Ytehfbnpibimmiaa.Lie Go.Proofs.Ytehfbnpibimmiaa.Use

theorem cut_head {t e : TypeId} (ht : Try.prog.underlying t = some (.slice e)) {z : Value} {b : Nat} (hinfo : (Try.prog.info? e).map (fun i => (i.zero, i.size, i.bytes)) = some (some z, 1, b)) (A : Option Addr) (n c m : Nat) (hm : m ≤ c) (W : World) :
    (Instr.slice t (.slice A n c) none (some (.int .i64 (m : Int))) none).run Try.prog W = .ok (.slice A m c) W := by
  obtain ⟨i, hi, hz, hs, hb⟩ := info_parts hinfo
  have hel : Try.prog.elem t = e := by simp [Program.elem, ht]
  have hu : Try.prog.underlying t = some (.slice (Try.prog.elem t)) := by rw [hel]; exact ht
  rw [run_slice_h W t A n c hu .i64 (m : Int) (by omega) (by omega), hel]
  simp only [sizeOf, typeInfo, sliced, Sem.run_bind, Sem.run_pure, Result.andThen]
  have e0 : (A.map fun x => x.add (0 * 1)) = A := by
    cases A with
    | none => rfl
    | some a => simp [Addr.add]
  simp [hi, hs, e0]

theorem take_nil (w : World) : Calls Try.prog 15 #[.pointer none] w fun e w' => e = .returned (.tuple #[.int .u32 0, .int .i64 10]) ∧ w = w' := by
  go_enter Try.func15, Try.ntmps15
  go_wp2
  go_ret2
  exact ⟨rfl, rfl⟩
theorem free_slice {w : World} {B sb gb ub : Nat} {fv : Value} {m : M} (h : Lies w B sb gb ub fv m) : ∃ A c, fv = .slice A m.free.length c := own_slice h.free
theorem take_full {w : World} {B sb gb ub : Nat} {fv : Value} {m : M} (h : Lies w B sb gb ub fv m) (hf : m.free = []) (hn : m.fresh = m.gen.length) :
    Calls Try.prog 15 #[.pointer (some ⟨sb, 0, none⟩)] w fun e w' => e = .returned (.tuple #[.int .u32 0, .int .i64 8]) ∧ Drawn0 w w' := by
  obtain ⟨c0, c1, c2, c3, c4, c5⟩ := cells_of h
  obtain ⟨A, c, rfl⟩ := free_slice h
  rw [hf] at c3
  rw [hn] at c4
  simp only [List.length_nil] at c3
  clear h hf hn c0 c2 c5
  go_enter Try.func15, Try.ntmps15
  go_wp2
  go_quiet (fail)
  go_wp2
  go_ret2
  exact ⟨rfl, ⟨⟨_, rfl⟩⟩⟩

theorem use_at {w : World} {B sb gb ub : Nat} {fv : Value} {m : M} (h : Lies w B sb gb ub fv m) (s : Int) {g : Int} (hl : m.used.length = m.gen.length) (hb : m.gen.length ≤ 1024) (s0 : 0 ≤ s) (hs : s < m.gen.length) (g1 : 1 ≤ g) (g2 : g ≤ 4194303) (hc0 : -1000 ≤ m.count) (hc1 : m.count ≤ 100000) :
    Calls Try.prog 27 #[.pointer (some ⟨sb, 0, none⟩), .int .i64 s, .int .i64 g] w.drew fun e w' => e = .returned (.tuple #[.int .u32 (g * 1024 + s), .int .i64 0]) ∧ Lies w' B sb gb ub fv (m.use s.toNat g) ∧ Turns (Own sb gb ub fv) w w' := by
  obtain ⟨k, rfl⟩ := Int.eq_ofNat_of_zero_le s0
  refine (use_calls (lies_drew h 1) k g (by omega) (by omega) hb g1 g2 hc0 hc1).mono ?_
  rintro e w' ⟨rfl, hz, ht⟩
  exact ⟨rfl, hz, ⟨ht.os, ht.tape, ht.output, ht.size, ht.block⟩⟩
def _root_.Go.Proofs.Ytehfbnpibimmiaa.Lie.M.takeFresh (m : M) : M := { m with fresh := m.fresh + 1 }.use m.fresh.toNat m.first
def _root_.Go.Proofs.Ytehfbnpibimmiaa.Lie.M.takeFree (m : M) (fs : List Int) (s : Nat) : M := { m with free := fs }.use s (m.gen.getD s 0 + 1)
set_option maxHeartbeats 4000000 in
set_option maxRecDepth 100000 in
theorem take_fresh {w : World} {B sb gb ub : Nat} {fv : Value} {m : M} (h : Lies w B sb gb ub fv m) (hl : m.used.length = m.gen.length) (hb : m.gen.length ≤ 1024) (hf : m.free = []) (f0 : 0 ≤ m.fresh) (hn : m.fresh < m.gen.length) (g1 : 1 ≤ m.first) (g2 : m.first ≤ 4194303) (hc0 : -1000 ≤ m.count) (hc1 : m.count ≤ 100000) :
    Calls Try.prog 15 #[.pointer (some ⟨sb, 0, none⟩)] w fun e w' => e = .returned (.tuple #[.int .u32 (m.first * 1024 + m.fresh), .int .i64 0]) ∧ Lies w' B sb gb ub fv m.takeFresh ∧ Turns (Own sb gb ub fv) w w' := by
  obtain ⟨c0, c1, c2, c3, c4, c5⟩ := cells_of h
  obtain ⟨A, c, rfl⟩ := free_slice h
  have f4 := (free_of h 4).1
  rw [hf] at c3
  simp only [List.length_nil] at c3
  have HX := Aside0.mk h
  have d : decide (m.fresh < (m.gen.length : Int)) = true := decide_eq_true hn
  clear h hf c2 c5
  go_enter Try.func15, Try.ntmps15
  go_wp2
  go_quiet (fail)
  go_wp2
  have HY := Aside0.mk (set_fresh (lies_drew HX.out nq) (m.fresh + 1))
  have HT := Aside0.mk (((Turns.refl (Own sb gb ub (.slice A m.free.length c)) w).drew nq).set (a := ⟨sb, 4, none⟩) (.inl (.inl rfl)) (.int .i64 (m.fresh + 1)))
  generalize (w.drewN nq).setCell ⟨sb, 4, none⟩ (.int .i64 (m.fresh + 1)) = W2 at HY HT ⊢
  clear c0 c1 c3 c4 f4
  obtain ⟨c0, _, _, _, c4, _⟩ := cells_of HY.out
  simp only at c0 c4
  have HW := Aside0.mk (show IntKind.i64.wrap m.fresh = m.fresh by rw [IntKind.wrap_i64]; omega)
  go_region_held3 (fun W => W.cell? ⟨sb, 0, none⟩ = some (.int .i64 m.first) ∧ W.cell? ⟨sb, 4, none⟩ = some (.int .i64 (m.fresh + 1)))
    (first | go_keep | (exact ⟨(cells_of HZ.out).1, (cells_of HZ.out).2.2.2.2.1⟩))
    (first | (go_at_call 27; rw [HW.out]; (with_reducible refine (use_at HY.out m.fresh hl hb f0 hn g1 g2 hc0 hc1).mono ?_); rintro e w' ⟨rfl, hz, ht⟩; have HZ := Aside0.mk hz; have HU := Aside0.mk ht; clear hz ht))
  go_wp2
  go_ret2
  exact ⟨rfl, HZ.out, HT.out.trans HU.out (fun _ _ h => h)⟩

theorem own_pop {w : World} {B fg cap : Nat} {l fs : List Int} {s : Int} (h : w.ownsRow B 3 1 (.slice (some ⟨fg, 0, none⟩) l.length cap) l.length (nums .i64 l)) (hl : l = fs ++ [s]) : w.ownsRow B 3 1 (.slice (some ⟨fg, 0, none⟩) fs.length cap) fs.length (nums .i64 fs) := by
  subst hl
  refine ⟨by simp [nums], .inr ?_⟩
  rcases h.2 with ⟨h1, _⟩ | ⟨g, cap', cur, he, hb, hh, h1, h2, h3, h4⟩
  · cases h1
  · injection he with e1 e2 e3
    injection e1 with e1
    injection e1 with e1
    subst e1 e3
    simp at h1 h4
    refine ⟨fg, cap, cur, rfl, hb, hh, by omega, h2, h3, ?_⟩
    have := congrArg (List.take fs.length) h4
    rw [List.take_take] at this
    simp [nums] at this
    simpa [nums] using this
set_option maxHeartbeats 4000000 in
set_option maxRecDepth 100000 in
theorem take_free {w : World} {B sb gb ub : Nat} {fv : Value} {m : M} {fs : List Int} {s : Nat} (h : Lies w B sb gb ub fv m) (hf : m.free = fs ++ [(s : Int)]) (hl : m.used.length = m.gen.length) (hb : m.gen.length ≤ 1024) (hs : s < m.gen.length) (hfl : fs.length ≤ 1024) (g1 : 0 ≤ m.gen.getD s 0) (g2 : m.gen.getD s 0 < 4194303) (hc0 : -1000 ≤ m.count) (hc1 : m.count ≤ 100000) :
    Calls Try.prog 15 #[.pointer (some ⟨sb, 0, none⟩)] w fun e w' => e = .returned (.tuple #[.int .u32 ((m.gen.getD s 0 + 1) * 1024 + s), .int .i64 0]) ∧ ∃ fv', Lies w' B sb gb ub fv' (m.takeFree fs s) ∧ fv'.ownBlock = fv.ownBlock ∧ Turns (Own sb gb ub fv) w w' := by
  obtain ⟨c0, c1, c2, c3, c4, c5⟩ := cells_of h
  have hlen : m.free.length = fs.length + 1 := by rw [hf]; simp
  obtain ⟨fg, cap, rfl, _, _⟩ := h.free.form (by omega)
  have f3 := (free_of h 3).1
  have hcap : fs.length + 1 ≤ cap := by
    rcases h.free.2 with ⟨_, h1⟩ | ⟨g', cap', cur, he, _, _, h1, h2, _⟩
    · omega
    · injection he with _ _ he; omega
  have hlast : w.cell? ⟨fg, fs.length, none⟩ = some (.int .i64 s) := by
    have := (own_at h.free (fs.length : Int) (by omega) (by omega)).1
    simpa [rd, hf] using this
  have hcut := fun W => cut_head Try.underlying45 info3 (some ⟨fg, 0, none⟩) (fs.length + 1) cap fs.length (by omega) W
  have HX := Aside0.mk h
  have HF := Aside0.mk hf
  rw [hlen] at c3
  have HL := Aside0.mk hlen
  clear h hf c0 c2 c4 c5 hlen
  go_enter Try.func15, Try.ntmps15
  go_wp2
  go_quiet (fail)
  go_wp2
  go_region
  have HY := Aside0.mk (set_free (fv' := .slice (some ⟨fg, 0, none⟩) fs.length cap) (free' := fs) (lies_drew HX.out (nq + 1)) (own_pop (lies_drew HX.out (nq + 1)).free HF.out) HX.out.apart)
  have HT := Aside0.mk (((Turns.refl (Own sb gb ub (.slice (some ⟨fg, 0, none⟩) m.free.length cap)) w).drew (nq + 1)).set (a := ⟨sb, 3, none⟩) (.inl (.inl rfl)) (.slice (some ⟨fg, 0, none⟩) fs.length cap))
  have d1 := (cells_of HY.out).2.1
  have dg := gen_at HY.out s hs
  simp only at d1 dg
  have hs0 : (0 : Int) ≤ (s : Int) := by omega
  have hs1 : (s : Int) < (m.gen.length : Int) := by omega
  generalize hgg : m.gen.getD s 0 = g0 at *
  have HG := Aside0.mk hgg
  clear hgg
  go_wp2_with (go_at_call 27; (with_reducible refine (use_calls HY.out s (g0 + 1) hs (by simpa [hl] using hs) hb (by omega) (by omega) hc0 hc1).mono ?_); rintro e w' ⟨rfl, hz, ht⟩; have HZ := Aside0.mk hz; have HU := Aside0.mk ht; clear hz ht)
  go_ret2
  refine ⟨by rw [HG.out]; rfl, .slice (some ⟨fg, 0, none⟩) fs.length cap, ?_, rfl, HT.out.trans HU.out (fun _ _ h => h)⟩
  unfold M.takeFree
  rw [HG.out]
  exact HZ.out
end Go.Proofs.Ytehfbnpibimmiaa.Take
