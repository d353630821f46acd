/-
  The abstract machine, part C.
-/
import Derived.Test.YtlpilgnjlnepeaaMA
import Derived.Orders
import Derived.Laws.Append
import Derived.Laws.AppendOwn
import Derived.Below
set_option linter.all false
namespace Go.VM

/-- Where a heap object lies. -/
inductive GO where
  | box (b : Nat)
  | map (b : Nat)
  | arr (ver : Nat) (b : Option Nat) (cap sz : Nat)
def GO.le : GO → GO → Prop
  | .arr v b c s, .arr v' b' c' s' => v < v' ∨ (v = v' ∧ b = b' ∧ c = c' ∧ s = s')
  | x, y => x = y
abbrev GS := Nat → Option GO
/-- Whose a block is: an object's, a temporary's (the spare room behind its slice), a cell's of a box, a result's. -/
inductive Ow where
  | no | obj (id : Nat) | tmp (t : Nat) | cell (id j : Nat) | res
  deriving DecidableEq
abbrev Sts := Nat → Nat → Prop

def arrVal (b : Option Nat) (cap sz off n : Nat) : Value := .slice (b.map fun b => ⟨b, off * sz, none⟩) n (cap - off)
def arrPtr (b : Option Nat) (sz i j : Nat) : Value := .pointer (b.map fun b => ⟨b, i * sz + j, none⟩)
inductive VR (G : GS) (w : World) (St : Sts) : AV → Value → Prop where
  | int (k : IntKind) (n : Int) : VR G w St (.int k n) (.int k n)
  | bool (b : Bool) : VR G w St (.bool b) (.bool b)
  | str (s : ByteArray) : VR G w St (.str s) (.string s)
  | slc (u : Bool) (es : List (List AV)) (sz : Nat) (a : Option Addr) (cap : Nat) (us : Nat → Nat → Value)
      (hc : es.length ≤ cap) (h0 : 0 < sz) (hu : ∀ e ∈ es, e.length = sz) (ha : a = none → cap = 0)
      (hl : es ≠ [] → ∃ b o, a = some ⟨b, o, none⟩ ∧ ∀ i j, i < es.length → j < sz → St b (o + i * sz + j) ∧ w.cell? ⟨b, o + i * sz + j, none⟩ = some (us i j) ∧ (us i j).oneCell' = true)
      (hr : ∀ (i : Nat) (e : List AV) (j : Nat) (x : AV), es[i]? = some e → e[j]? = some x → VR G w St x (us i j)) : VR G w St (.slc u es) (.slice a es.length cap)
  | ptr (id off b : Nat) (h : G id = some (.box b)) : VR G w St (.ptr id off) (.pointer (some ⟨b, off, none⟩))
  | iptr (cs : List AV) (off b o : Nat) (us : Nat → Value)
      (hl : ∀ j, j < cs.length → St b (o + j) ∧ w.cell? ⟨b, o + j, none⟩ = some (us j) ∧ (us j).oneCell' = true)
      (hr : ∀ (j : Nat) (x : AV), cs[j]? = some x → VR G w St x (us j)) : VR G w St (.iptr cs off) (.pointer (some ⟨b, o + off, none⟩))
  | arr (id ver off n v1 : Nat) (b : Option Nat) (cap sz : Nat) (v : Value) (h : G id = some (.arr v1 b cap sz)) (hv : ver ≤ v1) (hc : ver = v1 → v = arrVal b cap sz off n) (h1 : v.oneCell' = true) : VR G w St (.arr id ver off n) v
  | aptr (id ver i j v1 : Nat) (b : Option Nat) (cap sz : Nat) (v : Value) (h : G id = some (.arr v1 b cap sz)) (hv : ver ≤ v1) (hc : ver = v1 → v = arrPtr b sz i j) (h1 : v.oneCell' = true) : VR G w St (.aptr id ver i j) v
  | nilp : VR G w St .nilp (.pointer none)
  | map (id b : Nat) (h : G id = some (.map b)) : VR G w St (.map id) (.map (some b))
  | vnil : VR G w St (.vmap [] []) (.map none)
  | vmap (ks vs : List AV) (b : Nat) (es : Array MapEntry) (clock : Nat) (hb : w.heap[b]? = some (.map es clock)) (hs : St b 0) (hk : es.size = ks.length) (hv : vs.length = ks.length)
      (hrk : ∀ (i : Nat) (e : MapEntry) (x : AV), es[i]? = some e → ks[i]? = some x → VR G w St x e.key)
      (hrv : ∀ (i : Nat) (e : MapEntry) (x : AV), es[i]? = some e → vs[i]? = some x → VR G w St x e.val) : VR G w St (.vmap ks vs) (.map (some b))
  | func (f : FuncId) (xs ys : List AV) (us vs : Array Value) (hx : us.size = xs.length) (hy : vs.size = ys.length)
      (hrx : ∀ (i : Nat) (x : AV) (u : Value), xs[i]? = some x → us[i]? = some u → VR G w St x u)
      (hry : ∀ (i : Nat) (x : AV) (u : Value), ys[i]? = some x → vs[i]? = some u → VR G w St x u) : VR G w St (.func f xs ys) (.func (.func f) us vs)
  | nilf : VR G w St .nilf .nilFunc
  | iface (t : TypeId) (x : AV) (v : Value) (h : VR G w St x v) : VR G w St (.iface t x) (.iface t v)
  | nili : VR G w St .nili .nilIface
  | agg (cs : List AV) (vs : Array Value) (hs : vs.size = cs.length) (h1 : ∀ v ∈ vs, v.oneCell' = true)
      (hr : ∀ (i : Nat) (x : AV) (u : Value), cs[i]? = some x → vs[i]? = some u → VR G w St x u) : VR G w St (.agg cs) (.agg vs)
  | tup (cs : List AV) (vs : Array Value) (hs : vs.size = cs.length)
      (hr : ∀ (i : Nat) (x : AV) (u : Value), cs[i]? = some x → vs[i]? = some u → VR G w St x u) : VR G w St (.tup cs) (.tuple vs)
  | poison (v : Value) : VR G w St .poison v

theorem GO.le_refl (g : GO) : g.le g := by cases g <;> simp [GO.le]
theorem GO.le_trans {a b c : GO} (h : a.le b) (k : b.le c) : a.le c := by
  cases a <;> cases b <;> cases c <;> simp only [GO.le, reduceCtorEq] at h k ⊢ <;> first | (subst_vars; assumption) | (rw [h, k]) | skip
  rename_i v1 b1 c1 s1 v2 b2 c2 s2 v3 b3 c3 s3
  rcases h with h | ⟨rfl, rfl, rfl, rfl⟩
  · rcases k with k | ⟨rfl, rfl, rfl, rfl⟩
    · left; omega
    · left; exact h
  · exact k
def GLe (G G' : GS) : Prop := ∀ id g, G id = some g → ∃ g', G' id = some g' ∧ g.le g'
theorem GLe.refl (G : GS) : GLe G G := fun _ g h => ⟨g, h, g.le_refl⟩
theorem GLe.trans {a b c : GS} (h : GLe a b) (k : GLe b c) : GLe a c := fun id g x => by
  obtain ⟨g1, h1, h2⟩ := h id g x
  obtain ⟨g2, k1, k2⟩ := k id g1 h1
  exact ⟨g2, k1, GO.le_trans h2 k2⟩
theorem GLe.box {G G' : GS} (h : GLe G G') {id b : Nat} (hb : G id = some (.box b)) : G' id = some (.box b) := by
  obtain ⟨g, h1, h2⟩ := h id _ hb
  cases g <;> simp only [GO.le, reduceCtorEq] at h2
  rw [h1, h2]
theorem GLe.map {G G' : GS} (h : GLe G G') {id b : Nat} (hb : G id = some (.map b)) : G' id = some (.map b) := by
  obtain ⟨g, h1, h2⟩ := h id _ hb
  cases g <;> simp only [GO.le, reduceCtorEq] at h2
  rw [h1, h2]
theorem GLe.arr {G G' : GS} (h : GLe G G') {id v cap sz : Nat} {b : Option Nat} (hb : G id = some (.arr v b cap sz)) : ∃ v' b' cap' sz', G' id = some (.arr v' b' cap' sz') ∧ (v < v' ∨ (v = v' ∧ b = b' ∧ cap = cap' ∧ sz = sz')) := by
  obtain ⟨g, h1, h2⟩ := h id _ hb
  cases g <;> simp only [GO.le, reduceCtorEq] at h2
  exact ⟨_, _, _, _, h1, h2⟩
def GSub (G G' : GS) : Prop := ∀ id, G' id = G id
theorem GSub.refl (G : GS) : GSub G G := fun _ => rfl
theorem GSub.le {G G' : GS} (h : GSub G G') : GLe G G' := fun id g hg => ⟨g, (h id).trans hg, g.le_refl⟩
/-- What must not change has not. -/
def Stab (w w' : World) (St : Sts) : Prop := ∀ b o, St b o → w'.cell? ⟨b, o, none⟩ = w.cell? ⟨b, o, none⟩ ∧ ∀ es c, w.heap[b]? = some (.map es c) → w'.heap[b]? = some (.map es c)
theorem VR.mono {G G' : GS} {w w' : World} {St St' : Sts} {x : AV} {v : Value} (h : VR G w St x v) (hG : GLe G G') (hw : Stab w w' St) (hS : ∀ b o, St b o → St' b o) : VR G' w' St' x v := by
  induction h with
  | int k n => exact .int k n
  | bool b => exact .bool b
  | str s => exact .str s
  | slc u es sz a cap us hc h0 hu ha hl hr ih =>
    refine .slc u es sz a cap us hc h0 hu ha (fun hne => ?_) ih
    obtain ⟨b, o, e, hcell⟩ := hl hne
    exact ⟨b, o, e, fun i j hi hj => ⟨hS _ _ (hcell i j hi hj).1, by rw [(hw _ _ (hcell i j hi hj).1).1]; exact (hcell i j hi hj).2.1, (hcell i j hi hj).2.2⟩⟩
  | ptr id off b h => exact .ptr id off b (hG.box h)
  | arr id ver off n v1 b cap sz v h hv hc h1 =>
    obtain ⟨v', b', cap', sz', g1, g2⟩ := hG.arr h
    refine .arr id ver off n v' b' cap' sz' v g1 (by omega) (fun he => ?_) h1
    rcases g2 with g2 | ⟨rfl, rfl, rfl, rfl⟩
    · omega
    · exact hc he
  | aptr id ver i j v1 b cap sz v h hv hc h1 =>
    obtain ⟨v', b', cap', sz', g1, g2⟩ := hG.arr h
    refine .aptr id ver i j v' b' cap' sz' v g1 (by omega) (fun he => ?_) h1
    rcases g2 with g2 | ⟨rfl, rfl, rfl, rfl⟩
    · omega
    · exact hc he
  | iptr cs off b o us hl hr ih => exact .iptr cs off b o us (fun j hj => ⟨hS _ _ (hl j hj).1, by rw [(hw _ _ (hl j hj).1).1]; exact (hl j hj).2.1, (hl j hj).2.2⟩) ih
  | nilp => exact .nilp
  | map id b h => exact .map id b (hG.map h)
  | vnil => exact .vnil
  | vmap ks vs b es clock hb hs hk hv hrk hrv ihk ihv => exact .vmap ks vs b es clock ((hw _ _ hs).2 _ _ hb) (hS _ _ hs) hk hv ihk ihv
  | func f xs ys us vs hx hy hrx hry ihx ihy => exact .func f xs ys us vs hx hy ihx ihy
  | nilf => exact .nilf
  | iface t x v h ih => exact .iface t x v ih
  | nili => exact .nili
  | agg cs vs hs h1 hr ih => exact .agg cs vs hs h1 ih
  | tup cs vs hs hr ih => exact .tup cs vs hs ih
  | poison v => exact .poison v
theorem VR.strip {G w St} {x : AV} {v : Value} (h : VR G w St x v) : VR G w St x.strip v := by
  cases h with
  | slc u es sz a cap us hc h0 hu ha hl hr => exact .slc false es sz a cap us hc h0 hu ha hl hr
  | int k n => exact .int k n
  | bool b => exact .bool b
  | str s => exact .str s
  | ptr id off b h => exact .ptr id off b h
  | arr id ver off n v1 b cap sz v h hv hc h1 => exact .arr id ver off n v1 b cap sz v h hv hc h1
  | aptr id ver i j v1 b cap sz v h hv hc h1 => exact .aptr id ver i j v1 b cap sz v h hv hc h1
  | iptr cs off b o us hl hr => exact .iptr cs off b o us hl hr
  | nilp => exact .nilp
  | map id b h => exact .map id b h
  | vnil => exact .vnil
  | vmap ks vs b es clock hb hs hk hv hrk hrv => exact .vmap ks vs b es clock hb hs hk hv hrk hrv
  | func f xs ys us vs hx hy hrx hry => exact .func f xs ys us vs hx hy hrx hry
  | nilf => exact .nilf
  | iface t x v h => exact .iface t x v h
  | nili => exact .nili
  | agg cs vs hs h1 hr => exact .agg cs vs hs h1 hr
  | tup cs vs hs hr => exact .tup cs vs hs hr
  | poison v => exact .poison v
/-- A cell holds one cell's value. -/
theorem VR.one {G w St} {x : AV} {v : Value} (h : VR G w St x v) (hx : x.one = true) : v.oneCell' = true := by
  cases h <;> first | rfl | assumption | (simp [AV.one] at hx)

theorem cloL_get {p : Nat → Bool} : ∀ {cs : List AV} {i : Nat} {x : AV}, cloL p cs = true → cs[i]? = some x → clo p x = true
  | [], i, x, _, h => by simp at h
  | c :: cs, 0, x, hc, h => by
    simp only [List.getElem?_cons_zero, Option.some.injEq] at h
    subst h
    simp only [cloL, Bool.and_eq_true] at hc
    exact hc.1
  | c :: cs, i + 1, x, hc, h => by
    simp only [List.getElem?_cons_succ] at h
    simp only [cloL, Bool.and_eq_true] at hc
    exact cloL_get hc.2 h
theorem cloLL_get {p : Nat → Bool} : ∀ {es : List (List AV)} {i : Nat} {e : List AV}, cloLL p es = true → es[i]? = some e → cloL p e = true
  | [], i, x, _, h => by simp at h
  | c :: cs, 0, x, hc, h => by
    simp only [List.getElem?_cons_zero, Option.some.injEq] at h
    subst h
    simp only [cloLL, Bool.and_eq_true] at hc
    exact hc.1
  | c :: cs, i + 1, x, hc, h => by
    simp only [List.getElem?_cons_succ] at h
    simp only [cloLL, Bool.and_eq_true] at hc
    exact cloLL_get hc.2 h
/-- A value that leads to kept objects alone is as it was where the others are gone. -/
def cutG (G : GS) (p : Nat → Bool) : GS := fun id => if p id then G id else none
theorem VR.cut {G w St} {p : Nat → Bool} {x : AV} {v : Value} (h : VR G w St x v) (hp : clo p x = true) : VR (cutG G p) w St x v := by
  induction h with
  | int k n => exact .int k n
  | bool b => exact .bool b
  | str s => exact .str s
  | slc u es sz a cap us hc h0 hu ha hl hr ih =>
    simp only [clo] at hp
    exact .slc u es sz a cap us hc h0 hu ha hl fun i e j x h1 h2 => ih i e j x h1 h2 (cloL_get (cloLL_get hp h1) h2)
  | ptr id off b h => simp only [clo] at hp; exact .ptr id off b (by simp [cutG, hp, h])
  | arr id ver off n v1 b cap sz v h hv hc h1 => simp only [clo] at hp; exact .arr id ver off n v1 b cap sz v (by simp [cutG, hp, h]) hv hc h1
  | aptr id ver i j v1 b cap sz v h hv hc h1 => simp only [clo] at hp; exact .aptr id ver i j v1 b cap sz v (by simp [cutG, hp, h]) hv hc h1
  | iptr cs off b o us hl hr ih => simp only [clo] at hp; exact .iptr cs off b o us hl fun j x h1 => ih j x h1 (cloL_get hp h1)
  | nilp => exact .nilp
  | map id b h => simp only [clo] at hp; exact .map id b (by simp [cutG, hp, h])
  | vnil => exact .vnil
  | vmap ks vs b es clock hb hs hk hv hrk hrv ihk ihv =>
    simp only [clo, Bool.and_eq_true] at hp
    exact .vmap ks vs b es clock hb hs hk hv (fun i e x h1 h2 => ihk i e x h1 h2 (cloL_get hp.1 h2)) (fun i e x h1 h2 => ihv i e x h1 h2 (cloL_get hp.2 h2))
  | func f xs ys us vs hx hy hrx hry ihx ihy =>
    simp only [clo, Bool.and_eq_true] at hp
    exact .func f xs ys us vs hx hy (fun i x u h1 h2 => ihx i x u h1 h2 (cloL_get hp.1 h1)) (fun i x u h1 h2 => ihy i x u h1 h2 (cloL_get hp.2 h1))
  | nilf => exact .nilf
  | iface t x v h ih => simp only [clo] at hp; exact .iface t x v (ih hp)
  | nili => exact .nili
  | agg cs vs hs h1 hr ih => simp only [clo] at hp; exact .agg cs vs hs h1 fun i x u h1 h2 => ih i x u h1 h2 (cloL_get hp h1)
  | tup cs vs hs hr ih => simp only [clo] at hp; exact .tup cs vs hs fun i x u h1 h2 => ih i x u h1 h2 (cloL_get hp h1)
  | poison v => exact .poison v

/-! ### who may append -/
def Spare (w : World) (St : Sts) (O : Nat → Ow) (p : Ow) (es : List (List AV)) (v : Value) : Prop :=
  ∃ a n cap, v = .slice a n cap ∧ (n = cap ∨ ∃ b vals e sz, a = some ⟨b, 0, none⟩ ∧ O b = p ∧ w.heap[b]? = some (.cells vals e (0, 0)) ∧ vals.size = cap * sz ∧ es ≠ [] ∧ (∀ x ∈ es, x.length = sz) ∧ ∀ o, n * sz ≤ o → ¬ St b o)
theorem Spare.keep {w w' St St' O O' p p' es v} (h : Spare w St O p es v) (hO : ∀ b, O b = p → O' b = p' ∧ w'.heap[b]? = w.heap[b]? ∧ ∀ o, St' b o → St b o) : Spare w' St' O' p' es v := by
  obtain ⟨a, n, cap, rfl, h⟩ := h
  refine ⟨a, n, cap, rfl, ?_⟩
  rcases h with h | ⟨b, vals, e, sz, ha, hb, hh, hs, hn, hu, hf⟩
  · exact .inl h
  · exact .inr ⟨b, vals, e, sz, ha, (hO b hb).1, by rw [(hO b hb).2.1]; exact hh, hs, hn, hu, fun o ho hs => hf o ho ((hO b hb).2.2 o hs)⟩

def OR (G : GS) (w : World) (St : Sts) (O : Nat → Ow) (id : Nat) : AO → Prop
  | .dead => G id = none
  | .box cs => ∃ b vals e, G id = some (.box b) ∧ O b = .obj id ∧ w.heap[b]? = some (.cells vals e (0, 0)) ∧ vals.size = cs.length ∧ (∀ o, ¬ St b o) ∧
      ∀ (j : Nat) (c : AV) (v : Value), cs[j]? = some c → vals[j]? = some v → VR G w St c v ∧ v.oneCell' = true ∧ ∀ es, c = .slc true es → Spare w St O (.cell id j) es v
  | .map ks vs => ∃ b es clock, G id = some (.map b) ∧ O b = .obj id ∧ w.heap[b]? = some (.map es clock) ∧ (∀ o, ¬ St b o) ∧ es.size = ks.length ∧ vs.length = ks.length ∧
      (∀ (i : Nat) (e : MapEntry) (x : AV), es[i]? = some e → ks[i]? = some x → VR G w St x e.key) ∧
      (∀ (i : Nat) (e : MapEntry) (x : AV), es[i]? = some e → vs[i]? = some x → VR G w St x e.val)
  | .arr ver es => ∃ b cap sz, G id = some (.arr ver b cap sz) ∧ 0 < sz ∧ es.length ≤ cap ∧ (∀ e ∈ es, e.length = sz) ∧ (es = [] → cap = 0) ∧ (b = none → cap = 0) ∧ ∀ b', b = some b' →
      ∃ vals e, O b' = .obj id ∧ w.heap[b']? = some (.cells vals e (0, 0)) ∧ vals.size = cap * sz ∧ (∀ o, ¬ St b' o) ∧ ∀ (k : Nat) (c : AV) (v : Value), es.flatten[k]? = some c → vals[k]? = some v → VR G w St c v ∧ v.oneCell' = true
def cloO (p : Nat → Bool) : AO → Bool
  | .dead => true
  | .box cs => cloL p cs
  | .arr _ es => cloLL p es
  | .map ks vs => cloL p ks && cloL p vs
/-- The heap. -/
structure HI (G : GS) (w : World) (St : Sts) (O : Nat → Ow) (bs : List Nat) (H : List AO) : Prop where
  obj : ∀ (id : Nat) (o : AO), H[id]? = some o → OR G w St O id o
  gst : ∀ id, H.length ≤ id → G id = none
  low : ∀ b, O b ≠ .no → b < w.heap.size
  stl : ∀ b o, St b o → b < w.heap.size
  bas : ∀ b ∈ bs, ∀ (id : Nat) (o : AO), id < b → H[id]? = some o → cloO (fun i => decide (i < b)) o = true
/-- The temporaries. -/
structure EI (G : GS) (w : World) (St : Sts) (O : Nat → Ow) (E : Env) (T : Array Value) : Prop where
  env : ∀ t, VR G w St (E.get t) (T.getD t undef)
  own : ∀ t es, E.get t = .slc true es → Spare w St O (.tmp t) es (T.getD t undef)

/-- From one moment to a later one: what is not ours is as it was; what must not change has not. -/
structure Step (O : Nat → Ow) (w : World) (St : Sts) (O' : Nat → Ow) (w' : World) (St' : Sts) : Prop where
  os : w'.os = w.os
  tape : w'.tape = w.tape
  output : w'.output = w.output
  size : w.heap.size ≤ w'.heap.size
  old : ∀ b, b < w.heap.size → O b = .no → w'.heap[b]? = w.heap[b]?
  stb : Stab w w' St
  mono : ∀ b o, St b o → St' b o
  new : ∀ b o, St' b o → St b o ∨ O b ≠ .no ∨ w.heap.size ≤ b
  own : ∀ b, O' b ≠ .no → O b ≠ .no ∨ w.heap.size ≤ b
theorem Step.refl (O : Nat → Ow) (w : World) (St : Sts) : Step O w St O w St :=
  ⟨rfl, rfl, rfl, Nat.le_refl _, fun _ _ _ => rfl, fun _ _ _ => ⟨rfl, fun _ _ h => h⟩, fun _ _ h => h, fun _ _ h => .inl h, fun _ h => .inl h⟩
theorem Step.trans {O w St O1 w1 St1 O2 w2 St2} (h : Step O w St O1 w1 St1) (k : Step O1 w1 St1 O2 w2 St2) : Step O w St O2 w2 St2 where
  os := k.os.trans h.os
  tape := k.tape.trans h.tape
  output := k.output.trans h.output
  size := Nat.le_trans h.size k.size
  old := fun b hb ho => by
    have h1 : O1 b = .no := by
      by_cases hn : O1 b = .no
      · exact hn
      · rcases h.own b hn with h2 | h2
        · exact absurd ho h2
        · omega
    rw [k.old b (Nat.lt_of_lt_of_le hb h.size) h1, h.old b hb ho]
  stb := fun b o hs => ⟨by rw [(k.stb b o (h.mono b o hs)).1, (h.stb b o hs).1], fun es c he => (k.stb b o (h.mono b o hs)).2 _ _ ((h.stb b o hs).2 _ _ he)⟩
  mono := fun b o hs => k.mono b o (h.mono b o hs)
  new := fun b o hs => by
    rcases k.new b o hs with h1 | h1 | h1
    · exact h.new b o h1
    · rcases h.own b h1 with h2 | h2
      · exact .inr (.inl h2)
      · exact .inr (.inr h2)
    · exact .inr (.inr (Nat.le_trans h.size h1))
  own := fun b hb => by
    rcases k.own b hb with h1 | h1
    · exact h.own b h1
    · exact .inr (Nat.le_trans h.size h1)
def Ow.heap : Ow → Prop
  | .obj _ | .cell _ _ => True
  | _ => False
/-- An object outlives what does not touch it. -/
theorem OR.keep {G G' : GS} {w w' : World} {St St' : Sts} {O O' : Nat → Ow} {id : Nat} {o : AO} (h1 : OR G w St O id o) (hG : GLe G G') (hA : G' id = G id)
    (hw : Stab w w' St) (hS : ∀ b o, St b o → St' b o) (hO : ∀ b, (O b = .obj id ∨ ∃ j, O b = .cell id j) → O' b = O b ∧ w'.heap[b]? = w.heap[b]? ∧ ∀ o, St' b o → St b o) : OR G' w' St' O' id o := by
  cases o with
  | dead => exact hA.trans h1
  | arr ver es =>
    obtain ⟨b, cap, sz, g1, g2, g3, g4, g5, g6, g7⟩ := h1
    refine ⟨b, cap, sz, hA.trans g1, g2, g3, g4, g5, g6, fun b' hb' => ?_⟩
    obtain ⟨vals, e, q1, q2, q3, q4, q5⟩ := g7 b' hb'
    obtain ⟨r1, r2, r3⟩ := hO b' (.inl q1)
    exact ⟨vals, e, r1.trans q1, r2.trans q2, q3, fun o ho => q4 o (r3 o ho), fun k c v hc hv => ⟨(q5 k c v hc hv).1.mono hG hw hS, (q5 k c v hc hv).2⟩⟩
  | box cs =>
    obtain ⟨b, vals, e, hgb, hob, hh, hs, hns, hv⟩ := h1
    obtain ⟨k1, k2, k3⟩ := hO b (.inl hob)
    refine ⟨b, vals, e, hA.trans hgb, k1.trans hob, k2.trans hh, hs, fun o ho => hns o (k3 o ho), fun j c v hc hvj => ?_⟩
    obtain ⟨r1, r2, r3⟩ := hv j c v hc hvj
    exact ⟨r1.mono hG hw hS, r2, fun es he => (r3 es he).keep fun b hb => by obtain ⟨q1, q2, q3⟩ := hO b (.inr ⟨j, hb⟩); exact ⟨q1.trans hb, q2, q3⟩⟩
  | map ks vs =>
    obtain ⟨b, es, clock, hgb, hob, hh, hns, hs, hl, hk, hv⟩ := h1
    obtain ⟨k1, k2, k3⟩ := hO b (.inl hob)
    exact ⟨b, es, clock, hA.trans hgb, k1.trans hob, k2.trans hh, fun o ho => hns o (k3 o ho), hs, hl, fun i e x h1 h2 => (hk i e x h1 h2).mono hG hw hS, fun i e x h1 h2 => (hv i e x h1 h2).mono hG hw hS⟩
/-- The heap outlives what does not touch it. -/
theorem HI.keep {G G' : GS} {w w' : World} {St St' : Sts} {O O' : Nat → Ow} {bs : List Nat} {H : List AO} (h : HI G w St O bs H) (hG : GSub G G') (hg : ∀ id, H.length ≤ id → G' id = none)
    (hw : Stab w w' St) (hS : ∀ b o, St b o → St' b o) (hO : ∀ b, (O b).heap → O' b = O b ∧ w'.heap[b]? = w.heap[b]? ∧ ∀ o, St' b o → St b o)
    (hlow : ∀ b, O' b ≠ .no → b < w'.heap.size) (hstl : ∀ b o, St' b o → b < w'.heap.size) : HI G' w' St' O' bs H where
  gst := hg
  low := hlow
  stl := hstl
  bas := h.bas
  obj := fun id o ho => (h.obj id o ho).keep hG.le (hG id) hw hS fun b hb => hO b (by rcases hb with h | ⟨j, h⟩ <;> rw [h] <;> trivial)
def Ow.isTmp : Ow → Prop
  | .tmp _ => True
  | _ => False
/-- So do the temporaries. -/
theorem EI.keep {G G' : GS} {w w' : World} {St St' : Sts} {O O' : Nat → Ow} {E : Env} {T : Array Value} (h : EI G w St O E T) (hG : GLe G G')
    (hw : Stab w w' St) (hS : ∀ b o, St b o → St' b o) (hO : ∀ b, (O b).isTmp → O' b = O b ∧ w'.heap[b]? = w.heap[b]? ∧ ∀ o, St' b o → St b o) : EI G' w' St' O' E T where
  env := fun t => (h.env t).mono hG hw hS
  own := fun t es he => (h.own t es he).keep fun b hb => by obtain ⟨q1, q2, q3⟩ := hO b (by rw [hb]; trivial); exact ⟨q1.trans hb, q2, q3⟩
theorem Stab.refl (w : World) (St : Sts) : Stab w w St := fun _ _ _ => ⟨rfl, fun _ _ h => h⟩

theorem Env.get_set (e : Env) (t u : Nat) (v : AV) : (e.set t v).get u = if t = u then v else e.get u := rfl
theorem getD_set (T : Array Value) (t u : Nat) (v d : Value) : (T.setIfInBounds t v).getD u d = if t = u ∧ t < T.size then v else T.getD u d := by
  simp only [Array.getD_eq_getD_getElem?, Array.getElem?_setIfInBounds]
  by_cases h : t = u
  · subst h
    by_cases hs : t < T.size
    · simp [hs]
    · simp [hs]
  · simp [h]
end Go.VM
