/- The contract of the slots' Free (function 16): nil; one that is not in use; one that is. -/
import Derived.Test.YtehfbnpibimmiaaLive
import Derived.Deep.RegionLaw
namespace Go.Proofs.Ytehfbnpibimmiaa.Free
open Go.RowKit Go.Proofs.YtehfbnpibimmiaaW.PrintWords Go.Proofs.YtehfbnpibimmiaaW.PrintLast Go.Proofs.YtehfbnpibimmiaaW.PrintMore Go.Proofs.Ytehfbnpibimmiaa.Lie Go.Proofs.Ytehfbnpibimmiaa.Use Go.Proofs.Ytehfbnpibimmiaa.Take Go.Proofs.Ytehfbnpibimmiaa.Live

theorem free_nil (id : Int) (w : World) : Calls Try.prog 16 #[.pointer none, .int .u32 id] w fun e w' => e = .returned (.int .i64 10) ∧ w = w' := by
  go_enter Try.func16, Try.ntmps16
  go_wp2
  go_ret
  exact ⟨rfl, rfl⟩
set_option maxHeartbeats 1000000 in
theorem free_dead {w : World} {B sb gb ub : Nat} {fv : Value} {m : M} (h : Lies w B sb gb ub fv m) (id : Int) (i0 : 0 ≤ id) (i1 : id < 4294967296) (hl : m.used.length = m.gen.length) (hd : m.live id = false) :
    Calls Try.prog 16 #[.pointer (some ⟨sb, 0, none⟩), .int .u32 id] w fun e w' => e = .returned (.int .i64 7) ∧ Drawn0 w w' := by
  have HC := Aside0.mk (show Calls Try.prog 20 #[.pointer (some ⟨sb, 0, none⟩), .int .u32 id] w fun e w' => e = .returned (.bool false) ∧ Drawn0 w w' by rw [← hd]; exact live_calls h id i0 i1 hl)
  clear h hd
  go_enter Try.func16, Try.ntmps16
  go_wp2_with (go_at_call 20; (with_reducible refine HC.out.mono ?_); rintro e w' ⟨rfl, ⟨nd, rfl⟩⟩)
  go_ret
  exact ⟨rfl, ⟨⟨_, rfl⟩⟩⟩

/-- The slot is marked as not in use. -/
def _root_.Go.Proofs.Ytehfbnpibimmiaa.Lie.M.unuse (m : M) (s : Nat) : M := { m with used := m.used.set s false, count := m.count - 1 }
def _root_.Go.Proofs.Ytehfbnpibimmiaa.Lie.M.unuseFree (m : M) (s : Nat) : M := { m.unuse s with free := m.free ++ [(s : Int)] }
theorem fresher {fv fv' : Value} {w W : World} (h : fv'.ownBlock = fv.ownBlock ∨ ∃ b, fv'.ownBlock = some b ∧ W.heap.size ≤ b) (hs : w.heap.size ≤ W.heap.size) : fv'.ownBlock = fv.ownBlock ∨ ∃ b, fv'.ownBlock = some b ∧ w.heap.size ≤ b := by
  rcases h with h | ⟨b, h1, h2⟩
  · exact .inl h
  · exact .inr ⟨b, h1, by omega⟩
/-- Behind the append, ahead of the store. -/
theorem appended {W W' w1 : World} {B sb gb ub : Nat} {fv : Value} {m : M} {s : Nat} {g cap H : Nat} (h : Lies W B sb gb ub fv m) (hb : Below W.heap.size W W') (hg : W'.grownBy w1 fv.ownBlock)
    (hown : w1.ownsRow B 3 1 (.slice (some ⟨g, 0, none⟩) (m.free.length + 1) cap) (m.free.length + 1) (nums .i64 m.free ++ [.int .i64 s])) (hat : fv.ownBlock = some g ∨ g = H) (hH : W'.heap.size = H) :
    w1.cell? ⟨sb, 3, none⟩ = some fv ∧ w1.frozen? ⟨sb, 3, none⟩ = false ∧ Lies (w1.setCell ⟨sb, 3, none⟩ (.slice (some ⟨g, 0, none⟩) (m.free.length + 1) cap)) B sb gb ub (.slice (some ⟨g, 0, none⟩) (m.free.length + 1) cap) { m with free := m.free ++ [(s : Int)] } ∧
      (Value.ownBlock (.slice (some ⟨g, 0, none⟩) (m.free.length + 1) cap) = fv.ownBlock ∨ ∃ b, Value.ownBlock (.slice (some ⟨g, 0, none⟩) (m.free.length + 1) cap) = some b ∧ W.heap.size ≤ b) ∧
      Turns (Own sb gb ub fv) W (w1.setCell ⟨sb, 3, none⟩ (.slice (some ⟨g, 0, none⟩) (m.free.length + 1) cap)) := by
  obtain ⟨a1, a2, a3, a4, a5⟩ := lies_apart h
  obtain ⟨l1, l2, l3⟩ := lies_lt h
  have keep : ∀ k, k < W.heap.size → fv.ownBlock ≠ some k → w1.heap[k]? = W.heap[k]? := fun k hk hne => (hg.block k (Nat.lt_of_lt_of_le hk hb.size) (Ne.symm hne)).trans (hb.block k hk)
  have hobj := (keep sb l1 a4).trans h.obj
  have hgen := (keep gb l2 h.apart).trans h.gen
  have husd := (keep ub l3 a5).trans h.used
  have hsz := hb.size
  have ht : Turns (Own sb gb ub fv) W w1 := ⟨hg.os.trans hb.os, hg.tape.trans hb.tape, hg.output.trans hb.output, Nat.le_trans hb.size hg.size, fun k hk hS => keep k hk (fun e => hS (.inr (.inr (.inr e))))⟩
  have hgb : g ≠ gb := fun e0 => by
    rcases hat with e | e
    · exact h.apart (by rw [e, e0])
    · omega
  have hgs : g ≠ sb := fun e0 => by
    rcases hat with e | e
    · exact a4 (by rw [e, e0])
    · omega
  refine ⟨by simp [World.cell?, hobj, sObj], by simp [World.frozen?, hobj, sObj], ⟨?_, ?_, ?_, ?_, by simpa [Value.ownBlock] using hgb, h.lb⟩, ?_, ht.set (a := ⟨sb, 3, none⟩) (.inl (.inl rfl)) _⟩
  · rw [heap_set _ _ _ _ hobj]; simp [sObj]
  · rw [Below.heap_setCell _ _ _ _ (Ne.symm a1), hgen]
  · rw [Below.heap_setCell _ _ _ _ (Ne.symm a2), husd]
  · have e : nums .i64 m.free ++ [Value.int .i64 (s : Int)] = nums .i64 (m.free ++ [(s : Int)]) := by simp [nums]
    rw [e] at hown
    have hl : (m.free ++ [(s : Int)]).length = m.free.length + 1 := by simp
    rw [hl]
    exact own_kept hown fun q hq => Below.heap_setCell _ _ _ _ (by
      have : g = q := by simpa [Value.ownBlock] using hq
      show q ≠ sb
      omega)
  · rcases hat with e | e
    · exact .inl e.symm
    · exact .inr ⟨g, rfl, by omega⟩

set_option maxHeartbeats 4000000 in
set_option maxRecDepth 100000 in
theorem free_live {w : World} {B sb gb ub : Nat} {fv : Value} {m : M} (h : Lies w B sb gb ub fv m) (id : Int) (i0 : 0 ≤ id) (i1 : id < 4294967296) (hl : m.used.length = m.gen.length) (hd : m.live id = true) (s : Nat) (hs : id % 1024 = s) (hsl : s < m.gen.length) (hfl : m.free.length ≤ 1024) (hB : B ≤ w.heap.size) (hc0 : -1000 ≤ m.count) (hc1 : m.count ≤ 100000) (hg : id / 1024 < 4194303) :
    Calls Try.prog 16 #[.pointer (some ⟨sb, 0, none⟩), .int .u32 id] w fun e w' => e = .returned (.int .i64 0) ∧ ∃ fv', Lies w' B sb gb ub fv' (m.unuseFree s) ∧ (fv'.ownBlock = fv.ownBlock ∨ ∃ b, fv'.ownBlock = some b ∧ w.heap.size ≤ b) ∧ Turns (Own sb gb ub fv) w w' := by
  obtain ⟨c0, c1, c2, c3, c4, c5⟩ := cells_of h
  obtain ⟨A, c, rfl⟩ := free_slice h
  obtain ⟨a1, a2, a3, a4, a5⟩ := lies_apart h
  have HC := Aside0.mk (show Calls Try.prog 20 #[.pointer (some ⟨sb, 0, none⟩), .int .u32 id] w fun e w' => e = .returned (.bool true) ∧ Drawn0 w w' by rw [← hd]; exact live_calls h id i0 i1 hl)
  have HS := Aside0.mk (show ∀ w : World, Calls Try.prog 10 #[.int .u32 id] w fun e w' => e = .returned (.int .i64 (s : Int)) ∧ Drawn0 w w' from fun w => by rw [← hs]; exact slot_of id w i0)
  obtain ⟨i0_, hi0, hz0, hz1, hz2⟩ := info_parts info3
  have HX := Aside0.mk h
  have eu := used_at h s (by omega)
  have fu := (free_of h s).2.2
  have f5 := (free_of h 5).1
  have hs0 : (0 : Int) ≤ (s : Int) := by omega
  have hs1 : (s : Int) < (m.gen.length : Int) := by omega
  have dg : decide (id / 1024 < 4194303) = true := decide_eq_true hg
  clear h hd hs c0 c1 c4
  go_enter Try.func16, Try.ntmps16
  go_wp2_with (go_at_call 20; (with_reducible refine HC.out.mono ?_); rintro e w' ⟨rfl, ⟨nd, rfl⟩⟩)
  go_region_law (first | (go_simp; go_at_call 10; refine (HS.out _).mono ?_; rintro e w' ⟨rfl, ⟨k, rfl⟩⟩))
  all_goals go_wp2_with (go_at_call 12; (with_reducible refine (gen_of id _ i0 i1).mono ?_); rintro e w' ⟨rfl, ⟨nd2, rfl⟩⟩)
  all_goals (
    have HY := Aside0.mk (lies_drew (set_count (set_used (lies_drew HX.out (nd + 1 + k)) s false) (m.count - 1)) nd2)
    have HT := Aside0.mk (((((Turns.refl (Own sb gb ub (.slice A m.free.length c)) w).drew (nd + 1 + k)).set (a := ⟨ub, s, none⟩) (.inl (.inr (.inr (.inl rfl)))) (.bool false)).set (a := ⟨sb, 5, none⟩) (.inl (.inl rfl)) (.int .i64 (m.count - 1))).drew nd2)
    generalize (((w.drewN (nd + 1 + k)).setCell ⟨ub, s, none⟩ (.bool false)).setCell ⟨sb, 5, none⟩ (.int .i64 (m.count - 1))).drewN nd2 = W8 at HY HT ⊢
    have HBB := Aside0.mk (Nat.le_trans hB HT.out.size)
    clear c2 c3 c5 eu fu f5 HC
    have c3 := (cells_of HY.out).2.2.2.1
    have hsb := (lies_lt HY.out).1
    have cA : ∀ k x, ((W8.drewN k).alloc x).cell? ⟨sb, 3, none⟩ = some (.slice A m.free.length c) := fun k x => by
      rw [World.cell?_of_block (w := W8.drewN k) (Below.heap_alloc _ _ _ hsb)]; exact c3)
  all_goals go_region_law (first
    | (go_simp; go_at_call 10; refine (HS.out _).mono ?_; rintro e w' ⟨rfl, ⟨k, rfl⟩⟩)
    | (refine step_append_lies _ (by rfl) (.tmp 34) (.tmp 37) 45 (by rfl) B 3 i0_ _ 1 8 Try.underlying45 hi0 hz0 hz1 hz2 rfl (by omega) (.slice A m.free.length c) m.free.length (nums .i64 m.free) (by rfl) (pw_own_below HY.out.free (by repeat (first | (with_reducible exact Below.refl _ _) | (with_reducible apply pw_below_drewN) | (with_reducible apply below_drew) | (with_reducible apply below_alloc)))) ⟨_, 0, none⟩ 1 1 [.int .i64 s] (by rfl) (by rfl) (World.news_of_block (cs := #[.int .i64 s]) (t := 3) (fr := (0, 0)) (by exact heap_alloc_new _ _)) (by simp [Value.oneCell']) (by omega) (by simp only [maxLen]; omega) (by omega) (by have := HBB.out; simp; omega) _ rfl ?_; intro g cap w1 hown hg hat hlt; have HA := Aside0.mk (appended HY.out (by repeat (first | (with_reducible exact Below.refl _ _) | (with_reducible apply pw_below_drewN) | (with_reducible apply below_drew) | (with_reducible apply below_alloc))) hg hown hat rfl); clear hown hg hat hlt; have e3 := HA.out.1; have g3 := HA.out.2.1))
  all_goals go_wp2
  all_goals go_ret
  all_goals exact ⟨rfl, _, HA.out.2.2.1, fresher HA.out.2.2.2.1 HT.out.size, HT.out.trans HA.out.2.2.2.2 (fun _ _ h => h)⟩
set_option maxHeartbeats 4000000 in
set_option maxRecDepth 100000 in
theorem free_worn {w : World} {B sb gb ub : Nat} {fv : Value} {m : M} (h : Lies w B sb gb ub fv m) (id : Int) (i0 : 0 ≤ id) (i1 : id < 4294967296) (hl : m.used.length = m.gen.length) (hd : m.live id = true) (s : Nat) (hs : id % 1024 = s) (hsl : s < m.gen.length) (hc0 : -1000 ≤ m.count) (hc1 : m.count ≤ 100000) (hg : ¬ id / 1024 < 4194303) :
    Calls Try.prog 16 #[.pointer (some ⟨sb, 0, none⟩), .int .u32 id] w fun e w' => e = .returned (.int .i64 0) ∧ Lies w' B sb gb ub fv (m.unuse s) ∧ Turns (Own sb gb ub fv) w w' := by
  obtain ⟨c0, c1, c2, c3, c4, c5⟩ := cells_of h
  obtain ⟨A, c, rfl⟩ := free_slice h
  obtain ⟨a1, a2, a3, a4, a5⟩ := lies_apart h
  have HC := Aside0.mk (show Calls Try.prog 20 #[.pointer (some ⟨sb, 0, none⟩), .int .u32 id] w fun e w' => e = .returned (.bool true) ∧ Drawn0 w w' by rw [← hd]; exact live_calls h id i0 i1 hl)
  have HS := Aside0.mk (show ∀ w : World, Calls Try.prog 10 #[.int .u32 id] w fun e w' => e = .returned (.int .i64 (s : Int)) ∧ Drawn0 w w' from fun w => by rw [← hs]; exact slot_of id w i0)
  have HX := Aside0.mk h
  have eu := used_at h s (by omega)
  have fu := (free_of h s).2.2
  have f5 := (free_of h 5).1
  have hs0 : (0 : Int) ≤ (s : Int) := by omega
  have hs1 : (s : Int) < (m.gen.length : Int) := by omega
  have dg : decide (id / 1024 < 4194303) = false := decide_eq_false hg
  clear h hd hs c0 c1 c4
  go_enter Try.func16, Try.ntmps16
  go_wp2_with (go_at_call 20; (with_reducible refine HC.out.mono ?_); rintro e w' ⟨rfl, ⟨nd, rfl⟩⟩)
  go_region_law (first | (go_simp; go_at_call 10; refine (HS.out _).mono ?_; rintro e w' ⟨rfl, ⟨k, rfl⟩⟩))
  all_goals go_wp2_with (go_at_call 12; (with_reducible refine (gen_of id _ i0 i1).mono ?_); rintro e w' ⟨rfl, ⟨nd2, rfl⟩⟩)
  all_goals go_ret
  all_goals exact ⟨rfl, lies_drew (set_count (set_used (lies_drew HX.out (nd + 1 + k)) s false) (m.count - 1)) nd2, ((((Turns.refl (Own sb gb ub (.slice A m.free.length c)) w).drew (nd + 1 + k)).set (a := ⟨ub, s, none⟩) (.inl (.inr (.inr (.inl rfl)))) (.bool false)).set (a := ⟨sb, 5, none⟩) (.inl (.inl rfl)) (.int .i64 (m.count - 1))).drew nd2⟩

end Go.Proofs.Ytehfbnpibimmiaa.Free
