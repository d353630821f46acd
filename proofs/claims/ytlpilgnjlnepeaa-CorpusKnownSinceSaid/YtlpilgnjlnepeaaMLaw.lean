/-
  The abstract machine, part Law.
-/
import Derived.Test.YtlpilgnjlnepeaaMRow
import Derived.WalkKit
import Derived.ProofKit
import Derived.OpenShut
import Derived.ChangeOld
import Derived.Below
import Derived.Carry
import Derived.SizedLaws
set_option linter.all false
namespace Go.VM
open Go.RowKit Go.WideShapes Go.ChangeShapes
variable {P : Program} {H : Type} {enc : TypeId × Value → H} {w : World} {G : GS} {St : Sts}

/-- A well-formed argument. -/
def GoodV (P : Program) (t : TypeId) (x : AV) : Prop :=
  match P.underlying t with
  | some (.struct _) => ∃ n avs, x = .agg avs ∧ Good P n t avs
  | _ => ∃ n, Good P n t [x]
def GoodAll (P : Program) : List TypeId → List AV → Prop
  | [], xs => xs = []
  | t :: ts, xs => ∃ x r, xs = x :: r ∧ GoodV P t x ∧ GoodAll P ts r
theorem VL.single {x : AV} {u : Value} (h : VL G w St [x] [u]) : VR G w St x u := h.2.2 0 x u rfl rfl
theorem good_len1 {n : Nat} {t : TypeId} {avs : List AV} {u : Value} (h : VL G w St avs [u]) (hg : Good P n t avs) : ∃ x, avs = [x] ∧ VR G w St x u := by
  obtain ⟨x, rfl⟩ := List.length_eq_one_iff.1 (h.1.symm : avs.length = 1)
  exact ⟨x, rfl, h.single⟩
theorem arg_good {S : List TypeId} (hS : closedT P S = true) {base b0 : Nat} {spare : Nat → Bool} {held : Bool} (hst : ∀ b o v, w.cell? ⟨b, o, none⟩ = some v → St b o) {t : TypeId} {v : Value} {d : DataW H} {p : List MemPlace} (ht : S.contains t = true)
    (hv : Value.okWide P w .any b0 t v) (h : DataW.Trod enc P w base spare held t v d p) (hw : ∀ x ∈ d.weights P t, x ≤ reachBytes) : ∃ x, GoodV P t x ∧ VR G w St x v := by
  obtain ⟨fuel, hf⟩ := h
  obtain ⟨avs, g1, g2⟩ := trod_good (G := G) hS hst fuel t _ d p ht hf hw
  have hSt := List.all_eq_true.1 hS t (by simpa using ht)
  unfold GoodV
  cases hu : P.underlying t with
  | none => rw [hu] at hSt; cases hSt
  | some ds =>
    rw [hu] at hSt
    cases ds with
    | bool =>
      obtain ⟨b, rfl⟩ := okWide_bool hu hv
      obtain ⟨x, rfl, hx⟩ := good_len1 (u := .bool b) g2 g1
      exact ⟨x, ⟨fuel, g1⟩, hx⟩
    | int k =>
      obtain ⟨n, rfl⟩ := okWide_int hu hv
      obtain ⟨x, rfl, hx⟩ := good_len1 (u := .int k n) g2 g1
      exact ⟨x, ⟨fuel, g1⟩, hx⟩
    | string =>
      obtain ⟨s, rfl⟩ := okWide_string hu hv
      obtain ⟨x, rfl, hx⟩ := good_len1 (u := .string s) g2 g1
      exact ⟨x, ⟨fuel, g1⟩, hx⟩
    | slice e =>
      obtain ⟨a, len, cap, rfl⟩ := okWide_slice hu hv
      obtain ⟨x, rfl, hx⟩ := good_len1 (u := .slice a len cap) g2 g1
      exact ⟨x, ⟨fuel, g1⟩, hx⟩
    | struct fs =>
      simp only [Value.okWide, hu] at hv
      obtain ⟨cs, rfl, _⟩ := hv
      refine ⟨.agg avs, ⟨fuel, avs, rfl, g1⟩, .agg avs cs (by simpa [Value.cells] using g2.1) (fun u hu' => g2.2.1 u (by simpa [Value.cells] using hu')) fun i x u hx hu' => g2.2.2 i x u hx (by simpa [Value.cells] using hu')⟩
    | _ => cases hSt
theorem args_good {S : List TypeId} (hS : closedT P S = true) {base b0 : Nat} {spare : Nat → Bool} {held : Bool} (hst : ∀ b o v, w.cell? ⟨b, o, none⟩ = some v → St b o) : ∀ (ts : List TypeId) (vs : List Value) (ds : List (DataW H)) (p : List MemPlace),
    (∀ t ∈ ts, S.contains t = true) → (∀ (j : Nat) t v, ts[j]? = some t → vs[j]? = some v → Value.okWide P w .any b0 t v) → DataW.TrodAll enc P w base spare held ts vs ds p → (∀ x ∈ DataW.weightsEach P ts ds, x ≤ reachBytes) →
      ∃ xs, GoodAll P ts xs ∧ xs.length = vs.length ∧ (∀ (i : Nat) (x : AV) (u : Value), xs[i]? = some x → vs[i]? = some u → VR G w St x u) ∧ ts.length = vs.length
  | [], [], [], p, _, _, _, _ => ⟨[], rfl, rfl, fun i x u h => by simp at h, rfl⟩
  | t :: ts, v :: vs, d :: ds, p, hts, hv, h, hw => by
    obtain ⟨p1, q1, h1, h2, _⟩ := h
    obtain ⟨x, g1, g2⟩ := arg_good (G := G) hS hst (hts t List.mem_cons_self) (hv 0 t v rfl rfl) h1 fun x hx => hw x (by simp only [DataW.weightsEach, List.mem_append]; exact .inl hx)
    obtain ⟨xs, k1, k2, k3, k4⟩ := args_good hS hst ts vs ds q1 (fun t h => hts t (List.mem_cons_of_mem _ h)) (fun j t v a b => hv (j + 1) t v (by simpa using a) (by simpa using b)) h2 fun x hx => hw x (by simp only [DataW.weightsEach, List.mem_append]; exact .inr hx)
    refine ⟨x :: xs, ⟨x, xs, rfl, g1, k1⟩, by simp [k2], fun i y u hy hu => ?_, by simp [k4]⟩
    cases i with
    | zero => simp at hy hu; subst hy hu; exact g2
    | succ i => exact k3 i y u (by simpa using hy) (by simpa using hu)
  | [], _ :: _, _, _, _, _, h, _ => h.elim
  | [], [], _ :: _, _, _, _, h, _ => h.elim
  | _ :: _, [], _, _, _, _, h, _ => h.elim
  | _ :: _, _ :: _, [], _, _, _, h, _ => h.elim
theorem Step.below {O' : Nat → Ow} {w' : World} {St' : Sts} (h : Step (fun _ => .no) w St O' w' St') : Below w.heap.size w w' :=
  ⟨h.os, h.tape, h.output, h.size, fun k hk => h.old k hk rfl⟩
theorem trodAll_stays (hl : laidOutB P = true) {W W' : World} (hb : Below W.heap.size W W') : ∀ (ts : List TypeId) (vs : List Value) (ds : List (DataW H)) (p : List MemPlace), (∀ t ∈ ts, P.readableRec t = true ∧ t < P.types.size) →
    DataW.TrodAll enc P W 0 (fun _ => true) true ts vs ds p → DataW.TrodAll enc P W' 0 (fun b => decide (b < W.heap.size)) true ts vs ds p
  | [], [], [], _, _, h => h
  | t :: ts, v :: vs, d :: ds, p, ht, h => by
    obtain ⟨p1, q1, h1, h2, e⟩ := h
    refine ⟨p1, q1, Below.trod hl (ht t List.mem_cons_self).1 (ht t List.mem_cons_self).2 h1 hb ?_, trodAll_stays hl hb ts vs ds q1 (fun t h => ht t (List.mem_cons_of_mem _ h)) h2, e⟩
    obtain ⟨m, hm⟩ := h1
    exact DataW.trod_lt m _ _ _ hm
  | [], _ :: _, _, _, _, h => h.elim
  | [], [], _ :: _, _, _, h => h.elim
  | _ :: _, [], _, _, _, h => h.elim
  | _ :: _, _ :: _, [], _, _, h => h.elim
theorem HI.start (W : World) : HI (fun _ => none) W (fun b _ => b < W.heap.size) (fun _ => .no) [] [] :=
  ⟨fun id o h => by simp at h, fun _ _ => rfl, fun _ h => absurd rfl h, fun _ _ h => h, fun b h => by cases h⟩
/-- The contract of a law: true; the arguments read as they did. -/
theorem law_contract {X : Ctx} {fn : Func} {n : FuncId} {tb : TypeId} {S : List TypeId} {s : ChangeSpec} (hm : X.P.follows .mixedOrders = true) (hX : ∀ f, X.ok f = true → ∀ fn c, X.P.funcs[f]? = some fn → fn.body = some c → fn.name ≠ "runtime.NumGoroutine" ∧ codeOk (X.an f) fn.ntmps c = true)
    (hp : ∀ f p, X.prim f = some p → PrimOK X.P f p) (hl : laidOutB X.P = true) (hS : closedT X.P S = true) (hpar : fn.params.toList.all (fun t => S.contains t && X.P.readableRec t && decide (t < X.P.types.size)) = true) (hres : fn.resultTypes = #[tb]) (htb : X.P.underlying tb = some .bool)
    (hsv : s.vars = []) (hsf : ∀ ds : List (DataW H), ds.length = fn.params.toList.length → s.fn H ds = { results := [.lit (.bool true)], args := ds })
    (hlaw : ∀ xs, GoodAll X.P fn.params.toList xs → callD X n xs [] [] = some (.bool true, []))
    (W : World) (base : Nat) (args : Array Value) (ds gs : List (DataW H)) (before : List MemPlace)
    (hval : ∀ (j : Nat) t v, fn.params[j]? = some t → args[j]? = some v → Value.okWide X.P W .any base t v) (hW : DataW.Whole enc X.P fn.params.toList s.vars false W args.toList ds gs before)
    (hsz : (DataW.weightsEach X.P (fn.params.toList ++ s.plain.varTypes X.P) (ds ++ gs)).all (· ≤ reachBytes) = true) :
    Calls X.P n args W fun e W' => ∃ v, e = .returned v ∧ s.post enc X.P fn false true false false W args v W' := by
  have hW' := hW
  obtain ⟨p, q, hA, hV, rfl, hfz, hnd⟩ := hW
  rw [hsv] at hV
  obtain ⟨rfl, rfl⟩ := trodVars_none hV
  have hpar' : ∀ t ∈ fn.params.toList, S.contains t = true ∧ X.P.readableRec t = true ∧ t < X.P.types.size := fun t ht => by
    have := List.all_eq_true.1 hpar t ht
    simp only [Bool.and_eq_true, decide_eq_true_eq] at this
    exact ⟨this.1.1, this.1.2, this.2⟩
  have hlen : ∀ (ts : List TypeId) (vs : List Value) (es : List (DataW H)) (r : List MemPlace), DataW.TrodAll enc X.P W 0 (fun _ => true) true ts vs es r → es.length = ts.length := by
    intro ts
    induction ts with
    | nil => intro vs es r h; cases vs <;> cases es <;> first | rfl | exact h.elim
    | cons t ts ih =>
      intro vs es r h
      cases vs with
      | nil => exact h.elim
      | cons v vs =>
        cases es with
        | nil => exact h.elim
        | cons e es =>
          obtain ⟨_, _, _, h2, _⟩ := h
          simp [ih vs es _ h2]
  have hdl := hlen _ _ _ _ hA
  have hws : ∀ x ∈ DataW.weightsEach X.P fn.params.toList ds, x ≤ reachBytes := by
    have hvt : s.plain.varTypes X.P = [] := by simp [ChangeSpec.plain, DataSpec.varTypes, hsv]
    rw [hvt, List.append_nil, List.append_nil] at hsz
    intro x hx
    simpa using List.all_eq_true.1 hsz x hx
  obtain ⟨xs, g1, g2, g3, g4⟩ := args_good (G := fun _ => none) (St := fun b _ => b < W.heap.size) hS (fun b o v h => by
    unfold World.cell? at h
    split at h
    · rename_i c t f hb; exact (Array.getElem?_eq_some_iff.1 hb).1
    · cases h) fn.params.toList args.toList ds p (fun t ht => (hpar' t ht).1) (fun j t v a b => hval j t v (by simpa using a) (by simpa using b)) hA hws
  refine (sim_call hm hX hp (hlaw xs g1) (HI.start W) ⟨by simpa using g2.symm, fun i x u hx hu => g3 i x u hx (by simpa using hu)⟩).mono fun e W' he => ?_
  obtain ⟨cv, rfl, G', St', O', hv, hs⟩ := he
  have hcv := hv.inv_bool
  subst hcv
  have bel := hs.below
  refine ⟨_, rfl, ds, [], _, [], p, [], hW', ?_, ?_, ?_, bel.frame _, fun h => by cases h⟩
  · rw [List.append_nil, hsf ds hdl, hres]
    refine trodAll_mk1 ⟨1, ?_⟩
    simp [DataW.trod, htb, Value.cells]
  · rw [List.append_nil, hsf ds hdl]
    exact trodAll_stays hl bel _ _ _ _ (fun t ht => (hpar' t ht).2) hA
  · rw [List.append_nil, hsf ds hdl, hsv]
    rfl
end Go.VM
