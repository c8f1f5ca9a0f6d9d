/- The document's example of a mailbox (function 6) answers true; two lists that are alike are told so (function 12). -/
import Derived.Test.YtpbncindcmjoeaaAll
import Derived.Test.YtpbncindcmjoeaaPMailPlaysx1
namespace Go.Proofs.Ytpbncindcmjoeaa.Awake
open Go.Conc Go.RowKit Go.Proofs.YtpbncindcmjoeaaW.PrintWords Go.Proofs.Ytpbncindcmjoeaa.Comm Go.Proofs.Ytpbncindcmjoeaa.All Go.Proofs.Ytpbncindcmjoeaa.Box

/-- A slice value reads as a list. -/
def Lies (w : World) (v : Value) (l : List Int) : Prop := ∃ A c, v = .slice A l.length c ∧ l.length ≤ c ∧ Kd.C (Kd.int .i64) w A l.length l
theorem lies_own {w : World} {base : Nat} {v : Value} {l : List Int} (h : w.ownsRow base 2 1 v l.length (nums .i64 l)) : Lies w v l := by
  obtain ⟨A, c, rfl, hr⟩ := own_reads h
  refine ⟨A, c, rfl, ?_, Kd.C_of_reads (d := 0) hr⟩
  rcases h.2 with ⟨h1, h2⟩ | ⟨g, cap, cur, h1, _, _, h2, _⟩
  · omega
  · injection h1 with _ _ h1; omega
theorem lies_below {w w1 : World} {v : Value} {l : List Int} (h : Lies w v l) (hb : Below w.heap.size w w1) : Lies w1 v l := by
  obtain ⟨A, c, rfl, hc, hr⟩ := h
  exact ⟨A, c, rfl, hc, Kd.C_below hr hb⟩
theorem same_f (l : List Int) (hl : l.length ≤ 4611686018427387904) : PMailPlays.pinnaceref09_Same.f (l.length + 1) l l = some true := by
  unfold PMailPlays.pinnaceref09_Same.f
  rw [if_pos rfl]
  have key : ∀ (d k : Nat) (i : Int), 0 ≤ i → (l.length : Int) - i = d → d < k → PMailPlays.pinnaceref09_Same.l0 k l l l.length i = some true := by
    intro d
    induction d with
    | zero =>
      intro k i h0 hd hk
      obtain ⟨k, rfl⟩ : ∃ m, k = m + 1 := ⟨k - 1, by omega⟩
      simp only [PMailPlays.pinnaceref09_Same.l0]; rw [if_neg (by omega)]
    | succ d ih =>
      intro k i h0 hd hk
      obtain ⟨k, rfl⟩ : ∃ m, k = m + 1 := ⟨k - 1, by omega⟩
      have hw : wrap64 (i + 1) = i + 1 := by unfold wrap64; omega
      simp only [PMailPlays.pinnaceref09_Same.l0]; rw [if_pos (by omega), if_pos h0, if_pos (by omega), if_pos (by omega), if_pos trivial, hw]
      exact ih k (i + 1) (by omega) (by omega) (by omega)
  exact key l.length (l.length + 1) 0 (by omega) (by omega) (by omega)
theorem same_lies {w : World} {u v : Value} {l : List Int} (hu : Lies w u l) (hv : Lies w v l) (hl : l.length ≤ 4611686018427387904) :
    Calls Try.prog 12 #[u, v] w fun e w' => e = .returned (.bool true) ∧ Drawn0 w w' := by
  obtain ⟨A, c, rfl, hc, hr⟩ := hu
  obtain ⟨A', c', rfl, hc', hr'⟩ := hv
  exact PMailPlays.pinnaceref09_Same.calls _ A c l A' c' l true w hr hc hr' hc' (same_f l hl)
theorem lies_lit {w : World} (l : List Int) (hl : l.length ≤ 9223372036854775807) : Lies (w.alloc (.cells (nums .i64 l).toArray 2)) (.slice (some ⟨w.heap.size, 0, none⟩) l.length l.length) l :=
  lies_own (own_lit w w.heap.size 2 .i64 l (Nat.le_refl _) hl)

theorem box_new (w : World) (n : Nat) : Box ((w.alloc (chanOf n [] 0 0)).alloc (boxObj w.heap.size)) (w.heap.size + 1) w.heap.size n [] := by
  refine ⟨?_, 0, 0, ?_⟩
  · have := heap_alloc_new (w.alloc (chanOf n [] 0 0)) (boxObj w.heap.size)
    simpa using this
  · rw [Below.heap_alloc _ _ _ (by simp)]; exact heap_alloc_new w _
theorem new_box (n : Int) (w : World) (h1 : 1 ≤ n) (h2 : n ≤ 256) :
    Calls Try.prog 7 #[.int .i64 n] w fun e w' => e = .returned (.tuple #[.pointer (some ⟨w.heap.size + 1, 0, none⟩), .int .i64 0]) ∧ Box w' (w.heap.size + 1) w.heap.size n.toNat [] ∧ Below w.heap.size w w' := by
  obtain ⟨m, rfl⟩ := Int.eq_ofNat_of_zero_le (show 0 ≤ n by omega)
  refine (new_good m w (by omega) (by omega)).mono ?_
  rintro e w' ⟨rfl, rfl⟩
  exact ⟨rfl, box_new w m, ((Below.refl _ w).alloc (Nat.le_refl _) _).alloc (by simp) _⟩
theorem below_c {w W W1 : World} {c : Nat} (h : Below w.heap.size w W) (hg : W.grownBy W1 (some c)) (hc : w.heap.size ≤ c) : Below w.heap.size w W1 :=
  h.grown hg h.size (fun k hk => by injection hk with hk; omega)
theorem box_below {w w' : World} {b c n : Nat} {l : List Int} (h : Box w b c n l) (hb : Below w.heap.size w w') : Box w' b c n l := by
  obtain ⟨h1, s, r, h2⟩ := h
  exact ⟨by rw [hb.block _ (Array.getElem?_eq_some_iff.1 h1).1]; exact h1, s, r, by rw [hb.block _ (Array.getElem?_eq_some_iff.1 h2).1]; exact h2⟩
theorem len_of {w : World} {b c n : Nat} {l : List Int} (h : Box w b c n l) : Calls Try.prog 15 #[.pointer (some ⟨b, 0, none⟩)] w fun e w' => e = .returned (.int .i64 l.length) ∧ w = w' := by
  obtain ⟨h1, s, r, h2⟩ := h
  refine (len_box b c n l w s r h1 h2).mono ?_
  rintro e w' ⟨rfl, rfl⟩
  exact ⟨rfl, rfl⟩

set_option maxHeartbeats 2000000 in
set_option maxRecDepth 100000 in
theorem awake_calls (w : World) : Calls Try.prog 6 #[] w fun e w' => e = .returned (.bool true) ∧ Below w.heap.size w w' := by
  go_enter Try.func6, Try.ntmps6
  go_wp2_with (first
    | (go_at_call 7; (with_reducible refine (new_box 2 _ (by decide) (by decide)).mono ?_); rintro e w1 ⟨rfl, hb, hB⟩; have HX := Aside0.mk hb; have HB := Aside0.mk hB; clear hb hB)
    | (go_at_call 9; (with_reducible refine (put_box_room HX.out 1 (by decide)).mono ?_); rintro e w2 ⟨rfl, hg, hb⟩; have n0 := Aside0.mk (below_c HB.out hg (Nat.le_refl _)); clear HB HX hg; have HB := n0; have HX := Aside0.mk hb; clear n0 hb)
    | (go_at_call 9; (with_reducible refine (put_box_room HX.out 2 (by decide)).mono ?_); rintro e w2 ⟨rfl, hg, hb⟩; have n0 := Aside0.mk (below_c HB.out hg (Nat.le_refl _)); clear HB HX hg; have HB := n0; have HX := Aside0.mk hb; clear n0 hb)
    | (go_at_call 9; (with_reducible refine (put_box_full HX.out 3 (by decide)).mono ?_); rintro e w3 ⟨rfl, rfl⟩)
    | (go_at_call 9; (with_reducible refine (put_box_room HX.out 3 (by decide)).mono ?_); rintro e w2 ⟨rfl, hg, hb⟩; have n0 := Aside0.mk (below_c HB.out hg (Nat.le_refl _)); clear HB HX hg; have HB := n0; have HX := Aside0.mk hb; clear n0 hb)
    | (go_at_call 13; (with_reducible refine (take_box HX.out).mono ?_); rintro e w2 ⟨rfl, hg, hb⟩; have n0 := Aside0.mk (below_c HB.out hg (Nat.le_refl _)); clear HB HX hg; have HB := n0; have HX := Aside0.mk hb; clear n0 hb)
    | (go_at_call 11; (with_reducible refine (all_box HX.out (by decide)).mono ?_); rintro e w4 ⟨v, rfl, ho, hg, hb⟩; have HO := Aside0.mk (lies_own ho); clear ho; have n0 := Aside0.mk (below_c HB.out hg (Nat.le_refl _)); clear HB HX hg; have HB := n0; have HX := Aside0.mk hb; clear n0 hb)
    | (go_at_call 12; (with_reducible refine (same_lies (lies_below HO.out ((Below.refl _ _).alloc (Nat.le_refl _) _)) (lies_lit [2, 3] (by decide)) (by decide)).mono ?_); rintro e w' ⟨rfl, ⟨nd, rfl⟩⟩)
    | (go_at_call 15; (with_reducible refine (len_of (box_below HX.out (by repeat (first | exact Below.refl _ _ | apply pw_below_drewN | apply below_alloc)))).mono ?_); rintro e w' ⟨rfl, rfl⟩))
  go_ret
  exact ⟨rfl, by repeat (first | (with_reducible first | exact HB.out | apply below_alloc | apply pw_below_drewN | apply below_drew) | exact HB.out)⟩
end Go.Proofs.Ytpbncindcmjoeaa.Awake
