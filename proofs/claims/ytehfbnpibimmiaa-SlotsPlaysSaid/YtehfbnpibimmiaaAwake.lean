/- The document's example of the slots (function 9) answers true; SlotsIDs (function 3): every slot and generation has its ID, and every ID its slot and generation. -/
import Derived.Test.YtehfbnpibimmiaaFree
namespace Go.Proofs.Ytehfbnpibimmiaa.Awake
open Go.RowKit Go.Proofs.YtehfbnpibimmiaaW.PrintWords Go.Proofs.YtehfbnpibimmiaaW.PrintLast Go.Proofs.YtehfbnpibimmiaaW.PrintMore Go.Proofs.Ytehfbnpibimmiaa.Lie Go.Proofs.Ytehfbnpibimmiaa.Use Go.Proofs.Ytehfbnpibimmiaa.Take Go.Proofs.Ytehfbnpibimmiaa.Live Go.Proofs.Ytehfbnpibimmiaa.Free

/-- The object lies, and of old memory nothing has turned. -/
structure On (w0 w : World) (sb gb ub : Nat) (fv : Value) (m : M) : Prop where
  lies : Lies w w0.heap.size sb gb ub fv m
  below : Below w0.heap.size w0 w
section
variable {w0 w w1 : World} {sb gb ub : Nat} {fv fv' : Value} {m m' : M}
theorem on_turns (h : On w0 w sb gb ub fv m) (hl : Lies w1 w0.heap.size sb gb ub fv' m') (ht : Turns (Own sb gb ub fv) w w1) : On w0 w1 sb gb ub fv' m' :=
  ⟨hl, Turns.below h.below ht fun _ hk => own_from h.lies hk⟩
theorem on_below (h : On w0 w sb gb ub fv m) (hb : Below w.heap.size w w1) : On w0 w1 sb gb ub fv m := ⟨lies_below h.lies hb, h.below.trans (hb.mono h.below.size)⟩
theorem on_drawn (h : On w0 w sb gb ub fv m) (hd : Drawn0 w w1) : On w0 w1 sb gb ub fv m := on_below h hd.below
end
theorem new_on (n : Nat) (first : Int) (w0 w : World) (h1 : 1 ≤ n) (h2 : n ≤ 1024) (h3 : 1 ≤ first) (h4 : first ≤ 4194303) (hb : Below w0.heap.size w0 w) :
    Calls Try.prog 14 #[.int .i64 n, .int .i64 first] w fun e w' => ∃ sb gb ub, e = .returned (.tuple #[.pointer (some ⟨sb, 0, none⟩), .int .i64 0]) ∧ On w0 w' sb gb ub (.slice none 0 0) (M.new n first) ∧ Below w.heap.size w w' := by
  refine (new_good n first w h1 h2 h3 h4).mono ?_
  rintro e w' ⟨sb, gb, ub, rfl, hl, hB⟩
  have hs := hb.size
  exact ⟨sb, gb, ub, rfl, ⟨{ hl with free := own_nil _ _ _ _, lb := ⟨by have := hl.lb.1; omega, by have := hl.lb.2.1; omega, by have := hl.lb.2.2; omega⟩ }, hb.trans (hB.mono hs)⟩, hB⟩
theorem new_at (n first : Int) (w0 w : World) (h1 : 1 ≤ n) (h2 : n ≤ 1024) (h3 : 1 ≤ first) (h4 : first ≤ 4194303) (hb : Below w0.heap.size w0 w) :
    Calls Try.prog 14 #[.int .i64 n, .int .i64 first] w fun e w' => ∃ sb gb ub, e = .returned (.tuple #[.pointer (some ⟨sb, 0, none⟩), .int .i64 0]) ∧ On w0 w' sb gb ub (.slice none 0 0) (M.new n.toNat first) ∧ Below w.heap.size w w' := by
  obtain ⟨k, rfl⟩ := Int.eq_ofNat_of_zero_le (show 0 ≤ n by omega)
  exact new_on k first w0 w (by omega) (by omega) h3 h4 hb
theorem take_fresh_on {w0 w : World} {sb gb ub : Nat} {fv : Value} {m m' : M} (h : On w0 w sb gb ub fv m) (id : Int) (hid : m.first * 1024 + m.fresh = id) (hm : m.takeFresh = m') (hl : m.used.length = m.gen.length) (hb : m.gen.length ≤ 1024) (hf : m.free = []) (f0 : 0 ≤ m.fresh) (hn : m.fresh < m.gen.length) (g1 : 1 ≤ m.first) (g2 : m.first ≤ 4194303) (hc0 : -1000 ≤ m.count) (hc1 : m.count ≤ 100000) :
    Calls Try.prog 15 #[.pointer (some ⟨sb, 0, none⟩)] w fun e w' => e = .returned (.tuple #[.int .u32 id, .int .i64 0]) ∧ On w0 w' sb gb ub fv m' ∧ Turns (Own sb gb ub fv) w w' := by
  subst hid hm
  refine (take_fresh h.lies hl hb hf f0 hn g1 g2 hc0 hc1).mono ?_
  rintro e w' ⟨rfl, hz, ht⟩
  exact ⟨rfl, on_turns h hz ht, ht⟩
theorem take_free_on {w0 w : World} {sb gb ub : Nat} {fv : Value} {m m' : M} (h : On w0 w sb gb ub fv m) (fs : List Int) (s : Nat) (id : Int) (hid : (m.gen.getD s 0 + 1) * 1024 + s = id) (hm : m.takeFree fs s = m') (hf : m.free = fs ++ [(s : Int)]) (hl : m.used.length = m.gen.length) (hb : m.gen.length ≤ 1024) (hs : s < m.gen.length) (hfl : fs.length ≤ 1024) (g1 : 0 ≤ m.gen.getD s 0) (g2 : m.gen.getD s 0 < 4194303) (hc0 : -1000 ≤ m.count) (hc1 : m.count ≤ 100000) :
    Calls Try.prog 15 #[.pointer (some ⟨sb, 0, none⟩)] w fun e w' => e = .returned (.tuple #[.int .u32 id, .int .i64 0]) ∧ ∃ fv', On w0 w' sb gb ub fv' m' ∧ fv'.ownBlock = fv.ownBlock ∧ Turns (Own sb gb ub fv) w w' := by
  subst hid hm
  refine (take_free h.lies hf hl hb hs hfl g1 g2 hc0 hc1).mono ?_
  rintro e w' ⟨rfl, fv', hz, hv, ht⟩
  exact ⟨rfl, fv', on_turns h hz ht, hv, ht⟩
theorem free_on {w0 w : World} {sb gb ub : Nat} {fv : Value} {m m' : M} (h : On w0 w sb gb ub fv m) (id : Int) (s : Nat) (hm : m.unuseFree s = m') (i0 : 0 ≤ id) (i1 : id < 4294967296) (hl : m.used.length = m.gen.length) (hd : m.live id = true) (hs : id % 1024 = s) (hsl : s < m.gen.length) (hfl : m.free.length ≤ 1024) (hc0 : -1000 ≤ m.count) (hc1 : m.count ≤ 100000) (hg : id / 1024 < 4194303) :
    Calls Try.prog 16 #[.pointer (some ⟨sb, 0, none⟩), .int .u32 id] w fun e w' => e = .returned (.int .i64 0) ∧ ∃ fv', On w0 w' sb gb ub fv' m' ∧ (fv'.ownBlock = fv.ownBlock ∨ ∃ b, fv'.ownBlock = some b ∧ w.heap.size ≤ b) ∧ Turns (Own sb gb ub fv) w w' := by
  subst hm
  refine (free_live h.lies id i0 i1 hl hd s hs hsl hfl h.below.size hc0 hc1 hg).mono ?_
  rintro e w' ⟨rfl, fv', hz, hv, ht⟩
  exact ⟨rfl, fv', on_turns h hz ht, hv, ht⟩

theorem live_is (r : Bool) {w : World} {B sb gb ub : Nat} {fv : Value} {m : M} (h : Lies w B sb gb ub fv m) (id : Int) (i0 : 0 ≤ id) (i1 : id < 4294967296) (hl : m.used.length = m.gen.length) (hr : m.live id = r) :
    Calls Try.prog 20 #[.pointer (some ⟨sb, 0, none⟩), .int .u32 id] w fun e w' => e = .returned (.bool r) ∧ Drawn0 w w' := by
  subst hr
  exact live_calls h id i0 i1 hl
set_option maxHeartbeats 4000000 in
set_option maxRecDepth 100000 in
theorem awake_calls (w : World) : Calls Try.prog 9 #[] w fun e w' => e = .returned (.bool true) ∧ Below w.heap.size w w' := by
  go_enter Try.func9, Try.ntmps9
  go_wp2_with (first
    | (go_at_call 14; (with_reducible refine (new_at 2 1 w _ (by decide) (by decide) (by decide) (by decide) (Below.refl _ _)).mono ?_); rintro e w1 ⟨sb, gb, ub, rfl, ho, _⟩; have H0 := Aside0.mk ho; clear ho)
    | (go_at_call 15; (with_reducible refine (take_fresh_on (m' := ⟨1, [1, 0], [true, false], [], 1, 1⟩) H0.out 1024 (by decide) rfl rfl (by decide) rfl (by decide) (by decide) (by decide) (by decide) (by decide) (by decide)).mono ?_); rintro e w2 ⟨rfl, ho, _⟩; clear H0; have H1 := Aside0.mk ho; clear ho)
    | (go_at_call 15; (with_reducible refine (take_fresh_on (m' := ⟨1, [1, 1], [true, true], [], 2, 2⟩) H1.out 1025 (by decide) rfl rfl (by decide) rfl (by decide) (by decide) (by decide) (by decide) (by decide) (by decide)).mono ?_); rintro e w3 ⟨rfl, ho, _⟩; clear H1; have H2 := Aside0.mk ho; clear ho)
    | (go_at_call 15; (with_reducible refine (take_full H2.out.lies rfl rfl).mono ?_); rintro e w4 ⟨rfl, hd⟩; have H3 := Aside0.mk (on_drawn H2.out hd); clear H2 hd)
    | (go_at_call 16; (with_reducible refine (free_on (m' := ⟨1, [1, 1], [false, true], [0], 2, 1⟩) H3.out 1024 0 rfl (by decide) (by decide) rfl (by decide) (by decide) (by decide) (by decide) (by decide) (by decide) (by decide)).mono ?_); rintro e w5 ⟨rfl, fv', ho, _, _⟩; clear H3; have H4 := Aside0.mk ho; clear ho)
    | (go_at_call 15; (with_reducible refine (take_free_on (m' := ⟨1, [2, 1], [true, true], [], 2, 2⟩) H4.out [] 0 2048 (by decide) rfl rfl rfl (by decide) (by decide) (by decide) (by decide) (by decide) (by decide) (by decide)).mono ?_); rintro e w6 ⟨rfl, fv2, ho, _, _⟩; clear H4; have H5 := Aside0.mk ho; clear ho)
    | (go_at_call 20; (with_reducible refine (live_is true H5.out.lies 2048 (by decide) (by decide) rfl (by decide)).mono ?_); rintro e w7 ⟨rfl, hd⟩; have H6 := Aside0.mk (on_drawn H5.out hd); clear H5 hd)
    | (go_at_call 20; (with_reducible refine (live_is false H6.out.lies 1024 (by decide) (by decide) rfl (by decide)).mono ?_); rintro e w8 ⟨rfl, hd⟩; have H7 := Aside0.mk (on_drawn H6.out hd); clear H6 hd))
  go_ret
  exact ⟨rfl, H7.out.below⟩
end Go.Proofs.Ytehfbnpibimmiaa.Awake
