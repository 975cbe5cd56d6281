/- If hearing is symmetric, and every node has heard the table of every node that it hears, in this frame or in the one before, there are no clashes after all of them have given up what they must: ClaimsSettle returns true for every input, and its arguments read as before; no conditions. -/
import Derived.Test.YtadiocpcpjbjpaaSe
import Derived.Test.YtadiocpcpjbjpaaRows
import Derived.ProofKit
import Derived.OpenShut
import Derived.ChangeSame
import Derived.JoinedOf
import Derived.JoinedAt
import Derived.Lib.SmallJoins
import Derived.Carry
namespace Go.Proofs.Ytadiocpcpjbjpaa
open Go.ChangeShapes Go.WideShapes Go.ChangeAt Go.RowKit Go.Joins

theorem own : ownKnob Try.prog.godebug = none := by kernel_rfl
theorem laidOut : laidOutB Try.prog = true := by kernel_rfl

set_option maxRecDepth 100000 in
theorem ClaimsSettle_lifted (os : Os) (started : os.Started) (H : Type) (enc : TypeId × Value → H) :
    ReturnsInHanded {} Try.checked os 7 .any (Rows.claimsSettleSpec.pre6 enc Try.prog Try.f7 Rows.claimsSettleRow.domain false) (Rows.claimsSettleSpec.post enc Try.prog Try.f7 false true false false) := by
  refine returnsInHanded_of_change (C := Try.checked) own started (by kernel_rfl) Try.func7
    (ChangeSpec.witness6 (enc := enc) (C := Try.checked) false ⟨#[], #[.slice none 0 0, .slice none 0 0, .int .u32 0, .slice none 0 0], []⟩ 8 (by kernel_rfl) (by kernel_rfl) (by kernel_rfl) (by kernel_rfl)) ?_
  intro W base args ds gs before hval0 hW hcnd _
  have hval : ∀ (j : Nat) t v, Try.f7.params[j]? = some t → args[j]? = some v → Value.okWide Try.prog W .any base t v := hval0
  have hW' := hW
  obtain ⟨p, q, hA0, hV, rfl, hfz, hnd⟩ := hW
  have hA : DataW.TrodAll enc Try.prog W 0 (fun _ => true) true Try.f7.params.toList args.toList ds p := hA0
  rw [Try.params7] at hA hval
  obtain ⟨v0, vs0, d0, ds0, p0, q0, ha0, rfl, rfl, h0, hr0⟩ := trodAll_cons hA
  obtain ⟨v1, vs1, d1, ds1, p1, q1, rfl, rfl, rfl, h1, hr1⟩ := trodAll_cons hr0
  obtain ⟨v2, vs2, d2, ds2, p2, q2, rfl, rfl, rfl, h2, hr2⟩ := trodAll_cons hr1
  obtain ⟨v3, vs3, d3, ds3, p3, q3, rfl, rfl, rfl, h3, hr3⟩ := trodAll_cons hr2
  obtain ⟨rfl, rfl, rfl⟩ := trodAll_nil hr3
  have hargs : args = #[v0, v1, v2, v3] := Array.ext' ha0
  subst hargs
  obtain ⟨rfl, rfl⟩ := trodVars_none hV
  obtain ⟨a0, n0, cap0, rfl⟩ := okWide_slice Try.underlying40 (hval 0 40 v0 rfl rfl)
  obtain ⟨a1, n1, cap1, rfl⟩ := okWide_slice Try.underlying41 (hval 1 41 v1 rfl rfl)
  obtain ⟨x2, rfl, rfl, rfl, wx2⟩ := open_int Try.underlying73 (hval 2 73 v2 rfl rfl) h2
  obtain ⟨a3, n3, cap3, rfl⟩ := okWide_slice Try.underlying49 (hval 3 49 v3 rfl rfl)
  obtain ⟨l0, ok0⟩ : ∃ l, HearsOk W (.slice a0 n0 cap0) l := by
    obtain ⟨f2, hf2⟩ := h0
    obtain ⟨a', n', cap', l, e, ok⟩ := hears_read hf2
    simp [Value.cells] at e
    obtain ⟨rfl, rfl, rfl⟩ := e
    exact ⟨l, ok⟩
  obtain ⟨l1, ok1⟩ : ∃ l, TabsOk W (.slice a1 n1 cap1) l := by
    obtain ⟨f2, hf2⟩ := h1
    obtain ⟨a', n', cap', l, e, ok⟩ := tabs_read hf2
    simp [Value.cells] at e
    obtain ⟨rfl, rfl, rfl⟩ := e
    exact ⟨l, ok⟩
  obtain ⟨l3, ok3⟩ : ∃ l, BoolsOk W (.slice a3 n3 cap3) l := by
    obtain ⟨f2, hf2⟩ := h3
    obtain ⟨a', n', cap', l, e, ok⟩ := bools_read hf2
    simp [Value.cells] at e
    obtain ⟨rfl, rfl, rfl⟩ := e
    exact ⟨l, ok⟩
  refine (ClaimsSettle_walk a0 n0 cap0 l0 a1 n1 cap1 l1 x2 a3 n3 cap3 l3 W ok0 ok1 (bounds_u32 wx2) ok3).mono fun e W' ⟨he, bel⟩ => ?_
  subst he
  have lt0 : ∀ x ∈ p0, x.block < W.heap.size := by obtain ⟨f, hf⟩ := h0; exact DataW.trod_lt _ _ _ _ hf
  have lt1 : ∀ x ∈ p1, x.block < W.heap.size := by obtain ⟨f, hf⟩ := h1; exact DataW.trod_lt _ _ _ _ hf
  have lt3 : ∀ x ∈ p3, x.block < W.heap.size := by obtain ⟨f, hf⟩ := h3; exact DataW.trod_lt _ _ _ _ hf
  exact ⟨_, rfl, _, _, _, [], _, [], hW', trodAll_mk1 (shut_bool Try.underlying4 _), trodAll_cons_mk (Below.trod laidOut (by kernel_rfl) (of_decide_eq_true (by kernel_rfl)) h0 bel lt0) (trodAll_cons_mk (Below.trod laidOut (by kernel_rfl) (of_decide_eq_true (by kernel_rfl)) h1 bel lt1) (trodAll_cons_mk (shut_int Try.underlying73 wx2) (trodAll_cons_mk (Below.trod laidOut (by kernel_rfl) (of_decide_eq_true (by kernel_rfl)) h3 bel lt3) trodAll_mk0))), rfl, bel.frame _, fun h => by cases h⟩

/-- The given statement. -/
theorem ClaimsSettle_holds : Rows.ClaimsSettleSaid :=
  OpenClaim.holds_of_wide 7 Try.f7 rfl rfl rfl rfl rfl rfl rfl ⟨rfl, rfl, rfl, rfl, rfl⟩ rfl rfl rfl rfl rfl (by kernel_rfl) Try.func7 (by kernel_rfl)
    (of_decide_eq_true (by kernel_rfl)) (by unfold Func.isWrapper; first | (rw [if_pos (by decide +kernel)]; kernel_rfl) | (rw [if_neg (by decide +kernel)]; exact ⟨rfl, rfl⟩))
    (fun os started H enc _ => ClaimsSettle_lifted os started H enc)
#print axioms ClaimsSettle_holds
end Go.Proofs.Ytadiocpcpjbjpaa
