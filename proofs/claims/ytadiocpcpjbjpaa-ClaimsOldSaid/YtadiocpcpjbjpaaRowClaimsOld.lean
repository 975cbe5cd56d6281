/- Beacons that were not heard in this frame or the one before, and grants in beacons that have ended, have no influence: ClaimsOld returns true for every input, and its arguments read as before; no conditions. -/
import Derived.Test.YtadiocpcpjbjpaaOb
import Derived.Test.YtadiocpcpjbjpaaRows
import Derived.ProofKit
import Derived.OpenShut
import Derived.ChangeSame
import Derived.JoinedOf
import Derived.JoinedAt
import Derived.Lib.SmallJoins
import Derived.Carry
namespace Go.Proofs.Ytadiocpcpjbjpaa
open Go.ChangeShapes Go.WideShapes Go.ChangeAt Go.RowKit Go.Joins

theorem own : ownKnob Try.prog.godebug = none := by kernel_rfl
theorem laidOut : laidOutB Try.prog = true := by kernel_rfl

set_option maxRecDepth 100000 in
theorem ClaimsOld_lifted (os : Os) (started : os.Started) (H : Type) (enc : TypeId × Value → H) :
    ReturnsInHanded {} Try.checked os 9 .any (Rows.claimsOldSpec.pre6 enc Try.prog Try.f9 Rows.claimsOldRow.domain false) (Rows.claimsOldSpec.post enc Try.prog Try.f9 false true false false) := by
  refine returnsInHanded_of_change (C := Try.checked) own started (by kernel_rfl) Try.func9
    (ChangeSpec.witness6 (enc := enc) (C := Try.checked) false ⟨#[], #[.agg #[.slice none 0 0, .slice none 0 0, .slice none 0 0], .int .i64 0, .slice none 0 0, .int .i64 0], []⟩ 8 (by kernel_rfl) (by kernel_rfl) (by kernel_rfl) (by kernel_rfl)) ?_
  intro W base args ds gs before hval0 hW hcnd _
  have hval : ∀ (j : Nat) t v, Try.f9.params[j]? = some t → args[j]? = some v → Value.okWide Try.prog W .any base t v := hval0
  have hW' := hW
  obtain ⟨p, q, hA0, hV, rfl, hfz, hnd⟩ := hW
  have hA : DataW.TrodAll enc Try.prog W 0 (fun _ => true) true Try.f9.params.toList args.toList ds p := hA0
  rw [Try.params9] at hA hval
  obtain ⟨v0, vs0, d0, ds0, p0, q0, ha0, rfl, rfl, h0, hr0⟩ := trodAll_cons hA
  obtain ⟨v1, vs1, d1, ds1, p1, q1, rfl, rfl, rfl, h1, hr1⟩ := trodAll_cons hr0
  obtain ⟨v2, vs2, d2, ds2, p2, q2, rfl, rfl, rfl, h2, hr2⟩ := trodAll_cons hr1
  obtain ⟨v3, vs3, d3, ds3, p3, q3, rfl, rfl, rfl, h3, hr3⟩ := trodAll_cons hr2
  obtain ⟨rfl, rfl, rfl⟩ := trodAll_nil hr3
  have hargs : args = #[v0, v1, v2, v3] := Array.ext' ha0
  subst hargs
  obtain ⟨rfl, rfl⟩ := trodVars_none hV
  obtain ⟨cs0, rfl, _⟩ := okWide_struct Try.underlying26 (hval 0 26 v0 rfl rfl)
  obtain ⟨x1, rfl, rfl, rfl, wx1⟩ := open_int Try.underlying3 (hval 1 3 v1 rfl rfl) h1
  obtain ⟨a2, n2, cap2, rfl⟩ := okWide_slice Try.underlying27 (hval 2 27 v2 rfl rfl)
  obtain ⟨x3, rfl, rfl, rfl, wx3⟩ := open_int Try.underlying3 (hval 3 3 v3 rfl rfl) h3
  obtain ⟨t0, ht0, ok0⟩ : ∃ t : Tb, cs0 = (tbV t).toArray ∧ TbOk W t := by
    obtain ⟨f0, hf0⟩ := h0
    obtain ⟨t, e, ok⟩ := tb_read hf0
    exact ⟨t, Array.ext' e, ok⟩
  subst ht0
  obtain ⟨l2, ok2⟩ : ∃ l, NearOk W (.slice a2 n2 cap2) l := by
    obtain ⟨f2, hf2⟩ := h2
    obtain ⟨a', n', cap', l, e, ok⟩ := nears_read hf2
    simp [Value.cells] at e
    obtain ⟨rfl, rfl, rfl⟩ := e
    exact ⟨l, ok⟩
  refine (ClaimsOld_walk t0 x1 a2 n2 cap2 l2 x3 W ok0 ok2).mono fun e W' ⟨he, bel⟩ => ?_
  subst he
  have lt0 : ∀ x ∈ p0, x.block < W.heap.size := by obtain ⟨f, hf⟩ := h0; exact DataW.trod_lt _ _ _ _ hf
  have lt2 : ∀ x ∈ p2, x.block < W.heap.size := by obtain ⟨f, hf⟩ := h2; exact DataW.trod_lt _ _ _ _ hf
  exact ⟨_, rfl, _, _, _, [], _, [], hW', trodAll_mk1 (shut_bool Try.underlying4 _), trodAll_cons_mk (Below.trod laidOut (by kernel_rfl) (of_decide_eq_true (by kernel_rfl)) h0 bel lt0) (trodAll_cons_mk (shut_int Try.underlying3 wx1) (trodAll_cons_mk (Below.trod laidOut (by kernel_rfl) (of_decide_eq_true (by kernel_rfl)) h2 bel lt2) (trodAll_cons_mk (shut_int Try.underlying3 wx3) trodAll_mk0))), rfl, bel.frame _, fun h => by cases h⟩

/-- The given statement. -/
theorem ClaimsOld_holds : Rows.ClaimsOldSaid :=
  OpenClaim.holds_of_wide 9 Try.f9 rfl rfl rfl rfl rfl rfl rfl ⟨rfl, rfl, rfl, rfl, rfl⟩ rfl rfl rfl rfl rfl (by kernel_rfl) Try.func9 (by kernel_rfl)
    (of_decide_eq_true (by kernel_rfl)) (by unfold Func.isWrapper; first | (rw [if_pos (by decide +kernel)]; kernel_rfl) | (rw [if_neg (by decide +kernel)]; exact ⟨rfl, rfl⟩))
    (fun os started H enc _ => ClaimsOld_lifted os started H enc)
#print axioms ClaimsOld_holds
end Go.Proofs.Ytadiocpcpjbjpaa
