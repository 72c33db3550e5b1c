/- The law 'SnapshotEncode' of layer 32 holds: for every argument its call returns true, and the argument reads behind the call as it read before it. -/
import Derived.Test.YtobhdinkckckhaaGreatA11
set_option linter.unusedSimpArgs false
set_option linter.unusedVariables false
set_option maxRecDepth 100000
set_option linter.unusedVariables false
set_option maxHeartbeats 1000000

namespace Go.Proofs.YtobhdinkckckhaaGreat
open Go.RowKit Go.Am Go.Am.Tryz
theorem lawEncode_lifted (os : Os) (started : os.Started) (H : Type) (enc : TypeId × Value → H) :
    ReturnsInHanded {} Tryz.checked os 3 .any (Rows.snapshotEncodeSpec.pre6 enc Tryz.prog Tryz.f3 Rows.snapshotEncodeRow.domain false) (Rows.snapshotEncodeSpec.post enc Tryz.prog Tryz.f3 false true false false) := by
  refine law_lifted (C := Tryz.checked) (c := _) (tb := 4) 6 Tryz.laidOut Tryz.own started (by kernel_rfl) Tryz.func3
    (ChangeSpec.witness6 (enc := enc) (C := Tryz.checked) false ⟨#[], #[.agg #[.slice none 0 0, .slice none 0 0]], []⟩ 8 (by kernel_rfl) (by kernel_rfl) (by kernel_rfl) (by kernel_rfl)) rfl (by kernel_rfl) Tryz.underlying4 rfl (by kernel_rfl) (by kernel_rfl) ?_ ?_
  · intro ds h
    rw [Tryz.params3] at h
    match ds, h with
    | [d], _ => rfl
  · intro vs h
    rw [Tryz.params3] at h
    obtain ⟨v0, _, rfl, h0, rfl⟩ := h
    obtain ⟨w, rfl, hw⟩ := isT_view (d := 0) h0
    exact lawEncode hw
theorem lawEncode_holds : Rows.SnapshotEncodeSaid :=
  OpenClaim.holds_of_wide 3 Tryz.f3 rfl rfl rfl rfl rfl rfl rfl ⟨rfl, rfl, rfl, rfl, rfl⟩ rfl rfl rfl rfl rfl (by kernel_rfl) Tryz.func3 (by kernel_rfl)
    (of_decide_eq_true (by kernel_rfl)) (by unfold Func.isWrapper; first | (rw [if_pos (by decide +kernel)]; kernel_rfl) | (rw [if_neg (by decide +kernel)]; exact ⟨rfl, rfl⟩))
    (fun os started H enc _ => lawEncode_lifted os started H enc)
#print axioms lawEncode_holds
end Go.Proofs.YtobhdinkckckhaaGreat
