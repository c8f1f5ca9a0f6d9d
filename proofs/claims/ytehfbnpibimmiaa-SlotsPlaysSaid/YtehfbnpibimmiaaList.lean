/- The contract of the slots' List (function 19), and of slices.Clip (28): the IDs in use, by rising slots. -/
import Derived.Test.YtehfbnpibimmiaaAwake
namespace Go.Proofs.Ytehfbnpibimmiaa.List
open Go.RowKit Go.Proofs.YtehfbnpibimmiaaW.PrintWords Go.Proofs.YtehfbnpibimmiaaW.PrintLast Go.Proofs.YtehfbnpibimmiaaW.PrintMore Go.Proofs.Ytehfbnpibimmiaa.Lie Go.Proofs.Ytehfbnpibimmiaa.Use Go.Proofs.Ytehfbnpibimmiaa.Take Go.Proofs.Ytehfbnpibimmiaa.Live Go.Proofs.Ytehfbnpibimmiaa.Free Go.Proofs.Ytehfbnpibimmiaa.Awake

theorem info23 : (Try.prog.info? 23).map (fun i => (i.zero, i.size, i.bytes)) = some (some (.int .u32 0), 1, 4) := by kernel_rfl
/-- The IDs of the slots below x that are in use. -/
def _root_.Go.Proofs.Ytehfbnpibimmiaa.Lie.M.ids (m : M) (x : Nat) : List Int := (List.range x).filterMap fun s => if m.used.getD s false = true then some (m.gen.getD s 0 * 1024 + s) else none
theorem ids_zero (m : M) : m.ids 0 = [] := rfl
theorem ids_used (m : M) (x : Nat) (h : m.used.getD x false = true) : m.ids (x + 1) = m.ids x ++ [m.gen.getD x 0 * 1024 + (x : Int)] := by
  unfold M.ids
  rw [List.range_succ, List.filterMap_append]
  simp only [List.filterMap_cons, List.filterMap_nil, h, if_true]
theorem ids_not (m : M) (x : Nat) (h : m.used.getD x false = false) : m.ids (x + 1) = m.ids x := by
  unfold M.ids
  rw [List.range_succ, List.filterMap_append]
  simp only [List.filterMap_cons, List.filterMap_nil, h]
  simp
theorem ids_len (m : M) (x : Nat) : (m.ids x).length ≤ x := by
  unfold M.ids
  exact Nat.le_trans (List.length_filterMap_le _ _) (by simp)
/-- A slice value reads as a list of IDs. -/
def Reads (w : World) (v : Value) (l : List Int) : Prop := ∃ A c, v = .slice A l.length c ∧ l.length ≤ c ∧ Kd.C (Kd.int .u32) w A l.length l
theorem reads_below {w w1 : World} {v : Value} {l : List Int} (h : Reads w v l) (hb : Below w.heap.size w w1) : Reads w1 v l := by
  obtain ⟨A, c, rfl, hc, hr⟩ := h
  exact ⟨A, c, rfl, hc, Kd.C_below hr hb⟩
theorem reads_own {w : World} {base : Nat} {e : TypeId} {v : Value} {l : List Int} (h : w.ownsRow base e 1 v l.length (nums .u32 l)) : Reads w v l := by
  obtain ⟨A, c, rfl, hr⟩ := own_reads h
  refine ⟨A, c, rfl, ?_, Kd.C_of_reads (d := 0) hr⟩
  rcases h.2 with ⟨h1, h2⟩ | ⟨g, cap, cur, h1, _, _, h2, _⟩
  · omega
  · injection h1 with _ _ h1; omega

theorem clip_calls (A : Option Addr) (n c : Nat) (hn : n ≤ c) (w : World) : Calls Try.prog 28 #[.slice A n c] w fun e w' => e = .returned (.slice A n n) ∧ w = w' := by
  have hcut : ∀ W : World, (Instr.slice 41 (.slice A n c) none (some (.int .i64 (n : Int))) (some (.int .i64 (n : Int)))).run Try.prog W = .ok (.slice A n n) W := by
    intro W
    obtain ⟨i, hi, hz, hs, hb⟩ := info_parts info23
    have hel : Try.prog.elem 41 = 23 := by simp [Program.elem, Try.underlying41]
    have hu : Try.prog.underlying 41 = some (.slice (Try.prog.elem 41)) := by rw [hel]; exact Try.underlying41
    rw [run_slice_hm W 41 A n c hu .i64 .i64 (n : Int) (n : Int) (by omega) (by omega) (by omega), hel]
    simp only [sizeOf, typeInfo, sliced, Sem.run_bind, Sem.run_pure, Result.andThen]
    have e0 : (A.map fun x => x.add (0 * 1)) = A := by
      cases A with
      | none => rfl
      | some a => simp [Addr.add]
    simp [hi, hs, e0]
  go_enter Try.func28, Try.ntmps28
  go_wp2
  go_ret
  exact ⟨rfl, rfl⟩
theorem list_nil (w : World) : Calls Try.prog 19 #[.pointer none] w fun e w' => e = .returned (.slice none 0 0) ∧ w = w' := by
  go_enter Try.func19, Try.ntmps19
  go_wp2
  go_ret
  exact ⟨rfl, rfl⟩
def LRel (w : World) (m : M) (v i : Value) (W : World) : Prop :=
  ∃ x : Nat, i = .int .i64 x ∧ x ≤ m.gen.length ∧ W.ownsRow w.heap.size 23 1 v (m.ids x).length (nums .u32 (m.ids x)) ∧ Below w.heap.size w W
def Listed (m : M) (w : World) (e : Ending) (w' : World) : Prop :=
  ∃ A, e = .returned (.slice A (m.ids m.gen.length).length (m.ids m.gen.length).length) ∧ Kd.C (Kd.int .u32) w' A (m.ids m.gen.length).length (m.ids m.gen.length) ∧ Below w.heap.size w w'

theorem appended {w wr w1 : World} {m : M} {v v1 : Value} {x : Nat} {id : Int} (hB : Below w.heap.size w wr) (ho : wr.ownsRow w.heap.size 23 1 v (m.ids x).length (nums .u32 (m.ids x))) (hi : m.ids (x + 1) = m.ids x ++ [id]) (nd : Nat)
    (hown : w1.ownsRow w.heap.size 23 1 v1 (m.ids x ++ [id]).length (nums .u32 (m.ids x ++ [id]))) (hg : (wr.drewN nd).grownBy w1 v.ownBlock) :
    w1.ownsRow w.heap.size 23 1 v1 (m.ids (x + 1)).length (nums .u32 (m.ids (x + 1))) ∧ Below w.heap.size w w1 := by
  rw [hi]
  exact ⟨hown, (pw_below_drewN hB nd).grown hg (by have := hB.size; simpa using this) (own_base ho)⟩
set_option maxHeartbeats 4000000 in
set_option maxRecDepth 100000 in
theorem list_calls {w : World} {B sb gb ub : Nat} {fv : Value} {m : M} (h : Lies w B sb gb ub fv m) (hl : m.used.length = m.gen.length) (hb : m.gen.length ≤ 1024) (hg : ∀ s, m.used.getD s false = true → 1 ≤ m.gen.getD s 0 ∧ m.gen.getD s 0 ≤ 4194303) :
    Calls Try.prog 19 #[.pointer (some ⟨sb, 0, none⟩)] w (Listed m w) := by
  have HX := Aside0.mk h
  have HG := Aside0.mk hg
  obtain ⟨c0, c1, c2, c3, c4, c5⟩ := cells_of h
  clear h hg c0 c1 c3 c4 c5
  go_enter Try.func19, Try.ntmps19
  go_wp2
  go_loopw [3, 15] (fun v i W => LRel w m v i W) (fun _ i _ => m.gen.length - (intOf i).toNat)
  case atStart => exact ⟨0, rfl, by omega, own_nil _ _ _ _, Below.refl _ _⟩
  case round =>
    obtain ⟨x, rfl, hx, ho, hB⟩ := hrel
    have HO := Aside0.mk ho
    have HB := Aside0.mk hB
    have HY := Aside0.mk (lies_below HX.out hB)
    clear ho hB
    by_cases hend : x < m.gen.length
    · have eu := used_at HY.out x (by omega)
      have eg := gen_at HY.out x hend
      have c1 := (cells_of HY.out).2.1
      have d0 : decide ((x : Int) < (m.gen.length : Int)) = true := decide_eq_true (by omega)
      have hxb : (x : Int) ≤ 1024 := by omega
      cases hu : m.used.getD x false with
      | true =>
        have hgx := HG.out x hu
        rw [hu] at eu
        have HI := Aside0.mk (ids_used m x hu)
        have HL := Aside0.mk (ids_len m x)
        generalize m.gen.getD x 0 = g at eg hgx HI
        clear hu
        obtain ⟨hg1, hg2⟩ := hgx
        go_wp2_with (first
          | (go_at_call 7; (with_reducible refine (make_ok _ _ _ (by omega) (by omega) hg1 hg2).mono ?_); rintro e w' ⟨rfl, ⟨nd, rfl⟩⟩)
          | (at_builtin; refine print_append_num (w0 := wr.drewN nd) w.heap.size rfl (.tmp 33) (.tmp 35) 41 23 .u32 4 rfl Try.underlying41 info23 (by decide) _ (m.ids x) _ rfl rfl (pw_own_below HO.out (pw_below_drewN (Below.refl _ _) _)) (Below.refl _ _) (by have := HB.out.size; simpa using this) (by have := HL.out; omega) ?_; intro v1 w1 hown _ hgr hat; have HN := Aside0.mk (appended HB.out HO.out HI.out nd hown hgr); clear hown hgr hat))
        go_roundw
        case rel => exact ⟨x + 1, by go_num, hend, HN.out.1, HN.out.2⟩
        case measure => simp [intOf]; omega
      | false =>
        rw [hu] at eu
        have HI := Aside0.mk (ids_not m x hu)
        clear hu
        go_wp2
        go_roundw
        case rel => exact ⟨x + 1, by go_num, hend, by rw [HI.out]; exact HO.out, HB.out⟩
        case measure => simp [intOf]; omega
    · have d0 : decide ((x : Int) < (m.gen.length : Int)) = false := decide_eq_false (by omega)
      have d2 : decide (x < m.gen.length) = false := decide_eq_false (by omega)
      have hxe : x = m.gen.length := by omega
      obtain ⟨A, c, e1, hc, hr⟩ := reads_own HO.out
      subst e1
      have HR := Aside0.mk hr
      have HE := Aside0.mk hxe
      clear hr hxe
      go_wp2_with (go_at_call 28; (with_reducible refine (clip_calls A _ c hc _).mono ?_); rintro e w1 ⟨rfl, rfl⟩)
      go_ret
      exact ⟨A, by rw [← HE.out]; rfl, by rw [← HE.out]; exact HR.out, HB.out⟩
end Go.Proofs.Ytehfbnpibimmiaa.List
