/-
  pandectlaw28.CorpusOrderIndependent answers true, whatever the input, and leaves it as it was.
-/
import Derived.Test.YtlpilgnjlnepeaaD1
import Derived.Test.YtlpilgnjlnepeaaF1
set_option linter.all false
namespace Go.Proofs.Ytlpilgnjlnepeaa.T
open Go.VM Go.Proofs

set_option maxRecDepth 100000 in
theorem lawAll7 : ∀ xs, GoodAll X.P Try.f7.params.toList xs → callD X 7 xs [] [] = some (.bool true, []) := by
  intro xs h
  have h0 : GoodAll Try.prog [22, 5] xs := h
  obtain ⟨y0, r0, rfl, g0, h0⟩ := h0
  obtain ⟨y1, r1, rfl, g1, h0⟩ := h0
  obtain rfl := h0
  obtain ⟨l0, rfl, a0, b0⟩ := argL g0
  obtain ⟨l1, rfl, a1, b1⟩ := argU g1
  exact law7 l0 l1 ⟨a0, b0⟩ a1 b1 [] []

set_option maxRecDepth 100000 in
theorem met7 (os : Os) (started : os.Started) (H : Type) (enc : TypeId × Value → H) :
    ReturnsInHanded {} Try.checked os 7 .any (Rows.corpusOrderIndependentSpec.pre6 enc Try.prog Try.f7 Rows.corpusOrderIndependentRow.domain false) (Rows.corpusOrderIndependentSpec.post enc Try.prog Try.f7 false true false false) := by
  refine returnsInHanded_of_change_sized (C := Try.checked) own started (by kernel_rfl) Try.func7
    (ChangeSpec.witness6 (enc := enc) (C := Try.checked) false ⟨#[], #[.slice none 0 0, .int .u8 0], []⟩ 8 (by kernel_rfl) (by kernel_rfl) (by kernel_rfl) (by kernel_rfl)) ?_
  intro W base args ds gs before hval hW hcnd hsz _
  exact law_contract (X := X) (fn := Try.f7) (tb := 4) (S := tyS) mixed good (fun f p h => by cases h) laid closed (by kernel_rfl) rfl (by kernel_rfl) rfl (fun ds h => by
    match ds, h with
    | [d0, d1], _ => rfl) lawAll7 W base args ds gs before hval hW hsz
theorem corpusOrderIndependent_holds : Rows.CorpusOrderIndependentSaid :=
  OpenClaim.holds_of_wide 7 Try.f7 rfl rfl rfl rfl rfl rfl rfl ⟨rfl, rfl, rfl, rfl, rfl⟩ rfl rfl rfl rfl rfl (by kernel_rfl) Try.func7 (by kernel_rfl)
    (of_decide_eq_true (by kernel_rfl)) (by unfold Func.isWrapper; first | (rw [if_pos (by decide +kernel)]; kernel_rfl) | (rw [if_neg (by decide +kernel)]; exact ⟨rfl, rfl⟩))
    (fun os started H enc _ => met7 os started H enc)
end Go.Proofs.Ytlpilgnjlnepeaa.T
