/- MailFirst: the row, by the walk of YtpbncindcmjoeaaFirsts: out of several boxes, some of them nil, things come from the first that has any. No conditions. -/
import Derived.Test.YtpbncindcmjoeaaRows
import Derived.Test.YtpbncindcmjoeaaFirsts
import Derived.WalkKit
import Derived.ProofKit
import Derived.OpenShut
import Derived.ShutString
import Derived.ChangeOld
import Derived.Below
import Derived.SizedLaws
import Derived.Deep.Grids
import Derived.Deep.Matrix
import Derived.Test.YtpbncindcmjoeaaWSized
namespace Go.Proofs.Ytpbncindcmjoeaa.mailFirstOwn
open Go.ChangeShapes Go.WideShapes Go.ChangeAt Go.RowKit
open Go.ChangeMaps (open_string shut_string)
open Go.Proofs.YtpbncindcmjoeaaW
set_option linter.unusedVariables false
theorem own : ownKnob Try.prog.godebug = none := by kernel_rfl
theorem laidOut : laidOutB Try.prog = true := by kernel_rfl
theorem bools_of {w : World} {a : Option Addr} {len cap : Nat} (h : (a = none ∧ len = 0 ∧ cap = 0) ∨ ∃ x, a = some x ∧ len ≤ cap ∧ cap ≤ maxLen ∧ ∃ B : Nat → Bool, ∀ i, i < cap → w.cell? (x.add i) = some (.bool (B i))) :
    ∃ l : List Bool, len = l.length ∧ PrintWords.Kd.C PrintWords.Kd.bool w a l.length l ∧ l.length ≤ cap := by
  rcases h with ⟨rfl, rfl, rfl⟩ | ⟨x, rfl, hl, hm, B, hc⟩
  · exact ⟨[], rfl, PrintWords.Kd.C_of_reads (d := false) ⟨rfl, by simp, fun h => absurd h (by simp)⟩, by simp⟩
  · have hlen : ((List.range len).map B).length = len := by simp
    refine ⟨(List.range len).map B, hlen.symm, PrintWords.Kd.C_of_reads (d := false) ⟨rfl, by rw [hlen]; unfold maxLen at hm; omega, fun _ => ⟨x, rfl, fun j hj => ?_⟩⟩, by rw [hlen]; exact hl⟩
    rw [hlen] at hj
    rw [hc j (by omega)]
    simp [List.getD_eq_getElem?_getD, hj]
theorem rows_of {w : World} {a : Option Addr} {len cap : Nat} (h : (a = none ∧ len = 0 ∧ cap = 0) ∨ ∃ x, a = some x ∧ len ≤ cap ∧ cap ≤ maxLen ∧ ∃ (A : Nat → Option Addr) (L C : Nat → Nat) (Z : Nat → List Int), ∀ r, r < cap → w.cell? (x.add r) = some (.slice (A r) (L r) (C r)) ∧ L r ≤ C r ∧ C r ≤ maxLen ∧ (Z r).length = C r ∧ (A r = none → C r = 0) ∧ ∀ a', A r = some a' → ∀ c, c < C r → w.cell? (a'.add c) = some (.int .i64 ((Z r).getD c 0))) :
    ∃ l : List (List Int), len = l.length ∧ l.length ≤ cap ∧ PrintWords.Kd.C (PrintWords.Kd.slice 2 (PrintWords.Kd.int .i64)) w a l.length l := by
  rcases h with ⟨rfl, rfl, rfl⟩ | ⟨x, rfl, hl, hm, A, L, C, Z, hr⟩
  · exact ⟨[], rfl, by simp, rfl, by simp, fun h => absurd h (by simp)⟩
  · have hlen : ((List.range len).map fun r => (Z r).take (L r)).length = len := by simp
    refine ⟨(List.range len).map fun r => (Z r).take (L r), hlen.symm, by rw [hlen]; exact hl, rfl, by rw [hlen]; unfold maxLen at hm; omega, fun _ => ⟨x, rfl, fun j p hj => ?_⟩⟩
    have hjl : j < len := by have := (List.getElem?_eq_some_iff.1 hj).1; omega
    have hp : (Z j).take (L j) = p := by simpa [hjl] using hj
    subst hp
    obtain ⟨q1, q2, q3, q4, q5, q6⟩ := hr j (by omega)
    have hpl : ((Z j).take (L j)).length = L j := by rw [List.length_take]; omega
    refine ⟨[.slice (A j) ((Z j).take (L j)).length (C j)], rfl, ⟨A j, C j, rfl, by omega, PrintWords.Kd.C_of_reads (d := (0 : Int)) ⟨rfl, by unfold maxLen at q3; omega, fun h0 => ?_⟩⟩, fun i u hu => ?_⟩
    · cases ha : A j with
      | none => have := q5 ha; omega
      | some a' =>
        refine ⟨a', rfl, fun i hi => ?_⟩
        rw [q6 a' ha i (by omega)]
        have h3 : i < (Z j).length := by omega
        have h4 : i < L j := by omega
        simp [List.getD_eq_getElem?_getD, h4]
    · have hi0 : i = 0 := by have := (List.getElem?_eq_some_iff.1 hu).1; simp at this; exact this
      subst hi0
      have hu' : Value.slice (A j) ((Z j).take (L j)).length (C j) = u := by simpa using hu
      rw [← hu', hpl]
      have e : j * (PrintWords.Kd.slice 2 (PrintWords.Kd.int .i64)).sz + 0 = j := by simp [PrintWords.Kd.slice]
      rw [e]
      exact q1
set_option maxRecDepth 100000 in
theorem lifted (os : Os) (started : os.Started) (H : Type) (enc : TypeId × Value → H) :
    ReturnsInHanded {} Try.checked os 5 .any (Rows.mailFirstSpec.pre6 enc Try.prog Try.f5 Rows.mailFirstRow.domain false) (Rows.mailFirstSpec.post enc Try.prog Try.f5 false true false false) := by
  refine returnsInHanded_of_change_sized (C := Try.checked) own started (by kernel_rfl) Try.func5
    (ChangeSpec.witness6 (enc := enc) (C := Try.checked) false ⟨#[], #[.slice none 0 0, .slice none 0 0], []⟩ 8 (by kernel_rfl) (by kernel_rfl) (by kernel_rfl) (by kernel_rfl)) ?_
  intro W base args ds gs before hval0 hW hcnd hsz0 _
  have hsz : (DataW.weightsEach Try.prog (Try.f5.params.toList ++ Rows.mailFirstSpec.plain.varTypes Try.prog) (ds ++ gs)).all (· ≤ reachBytes) = true := hsz0
  have hval : ∀ (j : Nat) t v, Try.f5.params[j]? = some t → args[j]? = some v → Value.okWide Try.prog W .any base t v := hval0
  have hW' := hW
  obtain ⟨p, q, hA0, hV, rfl, hfz, hnd⟩ := hW
  have hA : DataW.TrodAll enc Try.prog W 0 (fun _ => true) true Try.f5.params.toList args.toList ds p := hA0
  rw [Try.params5] at hA hval hsz
  obtain ⟨v0, vs0, d0, ds0, p0, q0, hargs, rfl, rfl, h0, r0⟩ := trodAll_cons hA
  obtain ⟨v1, vs1, d1, ds1, p1, q1, rfl, rfl, rfl, h1, r1⟩ := trodAll_cons r0
  obtain ⟨rfl, rfl, rfl⟩ := trodAll_nil r1
  obtain rfl : args = #[v0, v1] := by cases args; simp_all
  obtain ⟨rfl, rfl⟩ := trodVars_none hV
  obtain ⟨a0, len0, cap0, rfl⟩ := okWide_slice Try.underlying46 (hval 0 46 v0 rfl rfl)
  have k0 := h0
  have lt0 : ∀ x ∈ p0, x.block < W.heap.size := by obtain ⟨m, hm⟩ := k0; exact DataW.trod_lt m _ _ _ hm
  obtain ⟨l0, rfl, hc0, hC0⟩ : ∃ l : List (List Int), len0 = l.length ∧ l.length ≤ cap0 ∧ PrintWords.Kd.C (PrintWords.Kd.slice 2 (PrintWords.Kd.int .i64)) W a0 l.length l := by
    refine rows_of ?_
    obtain ⟨fuel, hf⟩ := h0
    rcases Go.Deep.open_int_rows Try.underlying46 Try.underlying34 Try.underlying2 (by kernel_rfl) (by kernel_rfl) hf with ⟨hcs, _⟩ | ⟨x, l, c, A, L, C, Z, hcs, _, hl, hm, _, hrow⟩
    · simp [Value.cells] at hcs
      obtain ⟨rfl, rfl, rfl⟩ := hcs
      exact .inl ⟨rfl, rfl, rfl⟩
    · simp [Value.cells] at hcs
      obtain ⟨rfl, rfl, rfl⟩ := hcs
      exact .inr ⟨_, rfl, hl, hm, A, L, C, Z, fun r hr => by obtain ⟨q1, q2, q3, q4, _, q6, q7⟩ := hrow r hr; exact ⟨q1, q2, q3, q4, q6, fun a' e => (q7 a' e).2⟩⟩
  obtain ⟨a1, len1, cap1, rfl⟩ := okWide_slice Try.underlying44 (hval 1 44 v1 rfl rfl)
  have k1 := h1
  have lt1 : ∀ x ∈ p1, x.block < W.heap.size := by obtain ⟨m, hm⟩ := k1; exact DataW.trod_lt m _ _ _ hm
  obtain ⟨l1, rfl, hC1, hc1⟩ : ∃ l : List Bool, len1 = l.length ∧ PrintWords.Kd.C PrintWords.Kd.bool W a1 l.length l ∧ l.length ≤ cap1 := by
    refine bools_of ?_
    obtain ⟨fuel, hf⟩ := h1
    rcases Go.Deep.open_bools Try.underlying44 Try.underlying4 (by kernel_rfl) hf with ⟨hcs, _⟩ | ⟨x, l, c, B, hcs, _, hl, hm, _, hcell⟩
    · simp [Value.cells] at hcs
      obtain ⟨rfl, rfl, rfl⟩ := hcs
      exact .inl ⟨rfl, rfl, rfl⟩
    · simp [Value.cells] at hcs
      obtain ⟨rfl, rfl, rfl⟩ := hcs
      exact .inr ⟨_, rfl, hl, hm, B, hcell⟩
  refine (Firsts.firsts_calls a0 cap0 l0 a1 cap1 l1 W hc0 hC0 hC1).mono fun e W' ⟨he, bel⟩ => ?_
  subst he
  exact ⟨_, rfl, _, _, _, [], _, [], hW', trodAll_mk1 (shut_bool Try.underlying4 _), (trodAll_cons_mk (Below.trod laidOut (by kernel_rfl) (of_decide_eq_true (by kernel_rfl)) k0 bel lt0) (trodAll_cons_mk (Below.trod laidOut (by kernel_rfl) (of_decide_eq_true (by kernel_rfl)) k1 bel lt1) trodAll_mk0)), rfl, bel.frame _, fun h => by cases h⟩
theorem over : Rows.mailFirstRow.holds Try.pinned (OpenSpec.ofChange Rows.mailFirstSpec) :=
  OpenClaim.holds_of_wide 5 Try.f5 rfl rfl rfl rfl rfl rfl rfl ⟨rfl, rfl, rfl, rfl, rfl⟩ rfl rfl rfl rfl rfl (by kernel_rfl) Try.func5 (by kernel_rfl)
    (of_decide_eq_true (by kernel_rfl)) (by unfold Func.isWrapper; first | (rw [if_pos (by decide +kernel)]; kernel_rfl) | (rw [if_neg (by decide +kernel)]; exact ⟨rfl, rfl⟩))
    (fun os started H enc _ => lifted os started H enc)
theorem proved : Rows.MailFirstSaid := over
#print axioms proved
end Go.Proofs.Ytpbncindcmjoeaa.mailFirstOwn
namespace Go.Proofs.Ytpbncindcmjoeaa
/-- The row, under a short name, for the claim. -/
theorem mailFirst_holds : Rows.MailFirstSaid := mailFirstOwn.proved
end Go.Proofs.Ytpbncindcmjoeaa
