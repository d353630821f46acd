/-
  pandectlaw28.CorpusFinds answers true, whatever the input, and leaves it as it was.
-/
import Derived.Test.YtlpilgnjlnepeaaD1
set_option linter.all false
namespace Go.Proofs.Ytlpilgnjlnepeaa.T
open Go.VM Go.Proofs

set_option maxRecDepth 100000 in
theorem lawAll4 : ∀ xs, GoodAll X.P Try.f4.params.toList xs → callD X 4 xs [] [] = some (.bool true, []) := by
  intro xs h
  have h0 : GoodAll Try.prog [22, 3, 3, 3] xs := h
  obtain ⟨y0, r0, rfl, g0, h0⟩ := h0
  obtain ⟨y1, r1, rfl, g1, h0⟩ := h0
  obtain ⟨y2, r2, rfl, g2, h0⟩ := h0
  obtain ⟨y3, r3, rfl, g3, h0⟩ := h0
  obtain rfl := h0
  obtain ⟨l0, rfl, a0, b0⟩ := argL g0
  obtain ⟨l1, rfl⟩ := argI g1
  obtain ⟨l2, rfl⟩ := argI g2
  obtain ⟨l3, rfl⟩ := argI g3
  exact law4 l0 l1 l2 l3 ⟨a0, b0⟩ [] []

set_option maxRecDepth 100000 in
theorem met4 (os : Os) (started : os.Started) (H : Type) (enc : TypeId × Value → H) :
    ReturnsInHanded {} Try.checked os 4 .any (Rows.corpusFindsSpec.pre6 enc Try.prog Try.f4 Rows.corpusFindsRow.domain false) (Rows.corpusFindsSpec.post enc Try.prog Try.f4 false true false false) := by
  refine returnsInHanded_of_change_sized (C := Try.checked) own started (by kernel_rfl) Try.func4
    (ChangeSpec.witness6 (enc := enc) (C := Try.checked) false ⟨#[], #[.slice none 0 0, .int .i64 0, .int .i64 0, .int .i64 0], []⟩ 8 (by kernel_rfl) (by kernel_rfl) (by kernel_rfl) (by kernel_rfl)) ?_
  intro W base args ds gs before hval hW hcnd hsz _
  exact law_contract (X := X) (fn := Try.f4) (tb := 4) (S := tyS) mixed good (fun f p h => by cases h) laid closed (by kernel_rfl) rfl (by kernel_rfl) rfl (fun ds h => by
    match ds, h with
    | [d0, d1, d2, d3], _ => rfl) lawAll4 W base args ds gs before hval hW hsz
theorem corpusFinds_holds : Rows.CorpusFindsSaid :=
  OpenClaim.holds_of_wide 4 Try.f4 rfl rfl rfl rfl rfl rfl rfl ⟨rfl, rfl, rfl, rfl, rfl⟩ rfl rfl rfl rfl rfl (by kernel_rfl) Try.func4 (by kernel_rfl)
    (of_decide_eq_true (by kernel_rfl)) (by unfold Func.isWrapper; first | (rw [if_pos (by decide +kernel)]; kernel_rfl) | (rw [if_neg (by decide +kernel)]; exact ⟨rfl, rfl⟩))
    (fun os started H enc _ => met4 os started H enc)
end Go.Proofs.Ytlpilgnjlnepeaa.T
