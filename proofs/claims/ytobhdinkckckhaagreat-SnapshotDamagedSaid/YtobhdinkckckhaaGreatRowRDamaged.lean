/- The law 'SnapshotDamaged' of layer 32 holds: for every argument its call returns true, and the argument reads behind the call as it read before it. -/
import Derived.Test.YtobhdinkckckhaaGreatA11
set_option linter.unusedSimpArgs false
set_option linter.unusedVariables false
set_option maxRecDepth 100000
set_option linter.unusedVariables false
set_option maxHeartbeats 1000000

namespace Go.Proofs.YtobhdinkckckhaaGreat
open Go.RowKit Go.Am Go.Am.Tryz
theorem lawDamaged_lifted (os : Os) (started : os.Started) (H : Type) (enc : TypeId × Value → H) :
    ReturnsInHanded {} Tryz.checked os 5 .any (Rows.snapshotDamagedSpec.pre6 enc Tryz.prog Tryz.f5 Rows.snapshotDamagedRow.domain false) (Rows.snapshotDamagedSpec.post enc Tryz.prog Tryz.f5 false true false false) := by
  refine law_lifted (C := Tryz.checked) (c := _) (tb := 4) 2 Tryz.laidOut Tryz.own started (by kernel_rfl) Tryz.func5
    (ChangeSpec.witness6 (enc := enc) (C := Tryz.checked) false ⟨#[], #[.slice none 0 0], []⟩ 8 (by kernel_rfl) (by kernel_rfl) (by kernel_rfl) (by kernel_rfl)) rfl (by kernel_rfl) Tryz.underlying4 rfl (by kernel_rfl) (by kernel_rfl) ?_ ?_
  · intro ds h
    rw [Tryz.params5] at h
    match ds, h with
    | [d], _ => rfl
  · intro vs h
    rw [Tryz.params5] at h
    obtain ⟨v0, _, rfl, h0, rfl⟩ := h
    obtain ⟨b, rfl, hb⟩ := isT_bytes (d := 0) h0
    exact lawDamaged (by omega)
theorem lawDamaged_holds : Rows.SnapshotDamagedSaid :=
  OpenClaim.holds_of_wide 5 Tryz.f5 rfl rfl rfl rfl rfl rfl rfl ⟨rfl, rfl, rfl, rfl, rfl⟩ rfl rfl rfl rfl rfl (by kernel_rfl) Tryz.func5 (by kernel_rfl)
    (of_decide_eq_true (by kernel_rfl)) (by unfold Func.isWrapper; first | (rw [if_pos (by decide +kernel)]; kernel_rfl) | (rw [if_neg (by decide +kernel)]; exact ⟨rfl, rfl⟩))
    (fun os started H enc _ => lawDamaged_lifted os started H enc)
#print axioms lawDamaged_holds
end Go.Proofs.YtobhdinkckckhaaGreat
