/-
  pandectlaw28.CorpusKnownSince answers true, whatever the input, and leaves it as it was.
-/
import Derived.Test.YtlpilgnjlnepeaaD1
import Derived.Test.YtlpilgnjlnepeaaF1
set_option linter.all false
namespace Go.Proofs.Ytlpilgnjlnepeaa.T
open Go.VM Go.Proofs

set_option maxRecDepth 100000 in
theorem lawAll8 : ∀ xs, GoodAll X.P Try.f8.params.toList xs → callD X 8 xs [] [] = some (.bool true, []) := by
  intro xs h
  have h0 : GoodAll Try.prog [22, 3, 3] xs := h
  obtain ⟨y0, r0, rfl, g0, h0⟩ := h0
  obtain ⟨y1, r1, rfl, g1, h0⟩ := h0
  obtain ⟨y2, r2, rfl, g2, h0⟩ := h0
  obtain rfl := h0
  obtain ⟨l0, rfl, a0, b0⟩ := argL g0
  obtain ⟨l1, rfl⟩ := argI g1
  obtain ⟨l2, rfl⟩ := argI g2
  exact law8 l0 l1 l2 ⟨a0, b0⟩ [] []

set_option maxRecDepth 100000 in
theorem met8 (os : Os) (started : os.Started) (H : Type) (enc : TypeId × Value → H) :
    ReturnsInHanded {} Try.checked os 8 .any (Rows.corpusKnownSinceSpec.pre6 enc Try.prog Try.f8 Rows.corpusKnownSinceRow.domain false) (Rows.corpusKnownSinceSpec.post enc Try.prog Try.f8 false true false false) := by
  refine returnsInHanded_of_change_sized (C := Try.checked) own started (by kernel_rfl) Try.func8
    (ChangeSpec.witness6 (enc := enc) (C := Try.checked) false ⟨#[], #[.slice none 0 0, .int .i64 0, .int .i64 0], []⟩ 8 (by kernel_rfl) (by kernel_rfl) (by kernel_rfl) (by kernel_rfl)) ?_
  intro W base args ds gs before hval hW hcnd hsz _
  exact law_contract (X := X) (fn := Try.f8) (tb := 4) (S := tyS) mixed good (fun f p h => by cases h) laid closed (by kernel_rfl) rfl (by kernel_rfl) rfl (fun ds h => by
    match ds, h with
    | [d0, d1, d2], _ => rfl) lawAll8 W base args ds gs before hval hW hsz
theorem corpusKnownSince_holds : Rows.CorpusKnownSinceSaid :=
  OpenClaim.holds_of_wide 8 Try.f8 rfl rfl rfl rfl rfl rfl rfl ⟨rfl, rfl, rfl, rfl, rfl⟩ rfl rfl rfl rfl rfl (by kernel_rfl) Try.func8 (by kernel_rfl)
    (of_decide_eq_true (by kernel_rfl)) (by unfold Func.isWrapper; first | (rw [if_pos (by decide +kernel)]; kernel_rfl) | (rw [if_neg (by decide +kernel)]; exact ⟨rfl, rfl⟩))
    (fun os started H enc _ => met8 os started H enc)
end Go.Proofs.Ytlpilgnjlnepeaa.T
