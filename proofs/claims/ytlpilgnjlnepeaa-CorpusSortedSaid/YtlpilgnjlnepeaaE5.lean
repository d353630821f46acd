/-
  pandectlaw28.CorpusSorted answers true, whatever the input, and leaves it as it was.
-/
import Derived.Test.YtlpilgnjlnepeaaD1
import Derived.Test.YtlpilgnjlnepeaaF1
set_option linter.all false
namespace Go.Proofs.Ytlpilgnjlnepeaa.T
open Go.VM Go.Proofs

set_option maxRecDepth 100000 in
theorem lawAll5 : ∀ xs, GoodAll X.P Try.f5.params.toList xs → callD X 5 xs [] [] = some (.bool true, []) := by
  intro xs h
  have h0 : GoodAll Try.prog [22] xs := h
  obtain ⟨y0, r0, rfl, g0, h0⟩ := h0
  obtain rfl := h0
  obtain ⟨l0, rfl, a0, b0⟩ := argL g0
  exact law5 l0 ⟨a0, b0⟩ [] []

set_option maxRecDepth 100000 in
theorem met5 (os : Os) (started : os.Started) (H : Type) (enc : TypeId × Value → H) :
    ReturnsInHanded {} Try.checked os 5 .any (Rows.corpusSortedSpec.pre6 enc Try.prog Try.f5 Rows.corpusSortedRow.domain false) (Rows.corpusSortedSpec.post enc Try.prog Try.f5 false true false false) := by
  refine returnsInHanded_of_change_sized (C := Try.checked) own started (by kernel_rfl) Try.func5
    (ChangeSpec.witness6 (enc := enc) (C := Try.checked) false ⟨#[], #[.slice none 0 0], []⟩ 8 (by kernel_rfl) (by kernel_rfl) (by kernel_rfl) (by kernel_rfl)) ?_
  intro W base args ds gs before hval hW hcnd hsz _
  exact law_contract (X := X) (fn := Try.f5) (tb := 4) (S := tyS) mixed good (fun f p h => by cases h) laid closed (by kernel_rfl) rfl (by kernel_rfl) rfl (fun ds h => by
    match ds, h with
    | [d0], _ => rfl) lawAll5 W base args ds gs before hval hW hsz
theorem corpusSorted_holds : Rows.CorpusSortedSaid :=
  OpenClaim.holds_of_wide 5 Try.f5 rfl rfl rfl rfl rfl rfl rfl ⟨rfl, rfl, rfl, rfl, rfl⟩ rfl rfl rfl rfl rfl (by kernel_rfl) Try.func5 (by kernel_rfl)
    (of_decide_eq_true (by kernel_rfl)) (by unfold Func.isWrapper; first | (rw [if_pos (by decide +kernel)]; kernel_rfl) | (rw [if_neg (by decide +kernel)]; exact ⟨rfl, rfl⟩))
    (fun os started H enc _ => met5 os started H enc)
end Go.Proofs.Ytlpilgnjlnepeaa.T
