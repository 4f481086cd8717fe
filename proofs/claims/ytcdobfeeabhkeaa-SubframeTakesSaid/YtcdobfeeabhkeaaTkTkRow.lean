/- The subframe that any bytes tell is the document's, or the same is wrong: the statement SubframeTakes, for every input. -/
import Derived.Test.YtcdobfeeabhkeaaTkPr
import Derived.Test.YtcdobfeeabhkeaaRows
import Derived.ProofKit
namespace Go.Proofs.Ytcdobfeeabhkeaa
open Go.ChangeShapes Go.WideShapes Go.ChangeAt Go.RowKit
theorem Try.own : ownKnob Try.prog.godebug = none := by kernel_rfl
theorem Try.laidOut : laidOutB Try.prog = true := by kernel_rfl
theorem plain3 : ∀ x : Pv.Tu [Pv.tB, Pv.tI, Pv.tI], Pv.wfAll [Pv.tB, Pv.tI, Pv.tI] x → True → Pv.Try.f_law16_SubframeTakes x = some true := fun ⟨b, k, d⟩ h _ => Pv.Try.subframeTakes b (fun v hv => h.1.2 v hv) k d
set_option maxRecDepth 100000 in
theorem lifted3 (os : Os) (started : os.Started) (H : Type) (enc : TypeId × Value → H) :
    ReturnsInHanded {} Try.checked os 3 .any (Rows.subframeTakesSpec.pre6 enc Try.prog Try.f3 Rows.subframeTakesRow.domain false) (Rows.subframeTakesSpec.post enc Try.prog Try.f3 false true false false) := by
  refine returnsInHanded_of_change (C := Try.checked) Try.own started (by kernel_rfl) Try.func3
    (ChangeSpec.witness6 (enc := enc) (C := Try.checked) false ⟨#[], #[.slice none 0 0, .int .i64 0, .int .i64 0], []⟩ 8 (by kernel_rfl) (by kernel_rfl) (by kernel_rfl) (by kernel_rfl)) ?_
  intro W base args ds gs before hval0 hW hcnd _
  exact Pv.law_post (s := Rows.subframeTakesSpec) (tys := [Pv.tB, Pv.tI, Pv.tI]) Try.laidOut (by kernel_rfl : Try.prog.underlying (Try.f3.resultTypes.getD 0 0) = some .bool) (by kernel_rfl) rfl (fun ds h => by
    match ds, h with
    | [a, b, c], _ => rfl) (by kernel_rfl) (by kernel_rfl) (Pv.Try.k_law16_SubframeTakes) (Pre := fun _ => True) plain3 hval0 hW fun _ _ => trivial
theorem holds3 : Rows.SubframeTakesSaid :=
  OpenClaim.holds_of_wide 3 Try.f3 rfl rfl rfl rfl rfl rfl rfl ⟨rfl, rfl, rfl, rfl, rfl⟩ rfl rfl rfl rfl rfl (by kernel_rfl) Try.func3 (by kernel_rfl)
    (of_decide_eq_true (by kernel_rfl)) (by unfold Func.isWrapper; first | (rw [if_pos (by decide +kernel)]; kernel_rfl) | (rw [if_neg (by decide +kernel)]; exact ⟨rfl, rfl⟩))
    (fun os started H enc _ => lifted3 os started H enc)
end Go.Proofs.Ytcdobfeeabhkeaa
