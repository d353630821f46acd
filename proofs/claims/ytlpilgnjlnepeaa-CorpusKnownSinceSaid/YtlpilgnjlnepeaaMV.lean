/-
  The abstract machine, part V.
-/
import Derived.Test.YtlpilgnjlnepeaaMU
set_option linter.all false
namespace Go.VM
variable {P : Program} {G : GS} {w : World} {St : Sts} {O : Nat → Ow} {bs : List Nat} {K K' : List AO} {E E' : Env} {a : Act}

theorem refArr_some {ver i : Nat} {r v : AV} {o0 o1 : AO} (h : refArr ver i r o0 = some (v, o1)) : ∃ es, o0 = .arr ver es ∧ o1 = o0 ∧ v = r ∧ i < es.length := by
  unfold refArr at h
  split at h
  · split at h
    · rename_i hv
      simp only [Option.some.injEq, Prod.mk.injEq] at h
      exact ⟨_, by rw [hv.1], h.2.symm, h.1.symm, hv.2⟩
    · cases h
  · cases h
theorem wp_nil_upd {an : Ann} {nid : Nat} {o : Oper} {x : Operand} {id : Nat} {wr : Bool} {news : List AV} {k : AO → Option (AV × AO)} {o0 o1 : AO} {v : AV} {next : Act → World → Prop} {Q : Exit → Act → World → Prop}
    (hop : o.op = .nilCheck x) (hH : HI G w St O bs K) (hE : EI G w St O E a.tmps) (ht : ∀ t, o.dst = some t → t < a.tmps.size)
    (hq : req P an nid o.dst o.op (o.op.operands.toList.map (inOf an o.dst o.op E)) = some (.upd id wr news k)) (hid : K[id]? = some o0) (hk : k o0 = some (v, o1))
    (hK : Goes G w St O bs (if wr then K.set id o1 else K) (putD (gives an o.dst o.op E) o.dst (tidy o.op v)) a o.dst next) : o.wp P a w next Q := by
  rw [hop] at hq
  simp only [req, Op.operands, List.map_cons, List.map_nil] at hq
  split at hq
  · simp at hq
  · simp at hq
  · simp at hq
  · rename_i id' ver i j heq
    simp only [Option.some.injEq, Req.upd.injEq] at hq
    obtain ⟨rfl, rfl, rfl, rfl⟩ := hq
    simp only [List.cons.injEq, and_true] at heq
    obtain ⟨es, rfl, rfl, rfl, hi⟩ := refArr_some hk
    have hx := inOf_VR hE an o.dst (.nilCheck x) x
    rw [heq] at hx
    obtain ⟨b, cap, sz, g1, g2, g3, g4, g5, g6, g7⟩ := (hH.obj _ _ hid).row
    have hρ := hx.inv_aptr g1 rfl
    have htd : tidy o.op (.aptr id' ver i j) = .aptr id' ver i j := by simp [tidy, flagOp, hop, AV.strip]
    rw [htd] at hK
    cases b with
    | none => have := g6 rfl; omega
    | some b =>
      refine wp_read hH hE ht ?_ (fun u => by rw [hop]; rfl) hx (fun es h => by cases h) (by simpa using hK)
      simp only [arrPtr, Option.map_some] at hρ
      unfold execOp
      simp [hop, hρ]
  · cases hq
theorem wp_field_upd {an : Ann} {nid : Nat} {o : Oper} {t : TypeId} {x : Operand} {f : Nat} {id : Nat} {wr : Bool} {news : List AV} {k : AO → Option (AV × AO)} {o0 o1 : AO} {v : AV} {next : Act → World → Prop} {Q : Exit → Act → World → Prop}
    (hop : o.op = .fieldAddr t x f) (hH : HI G w St O bs K) (hE : EI G w St O E a.tmps) (ht : ∀ t, o.dst = some t → t < a.tmps.size)
    (hq : req P an nid o.dst o.op (o.op.operands.toList.map (inOf an o.dst o.op E)) = some (.upd id wr news k)) (hid : K[id]? = some o0) (hk : k o0 = some (v, o1))
    (hK : Goes G w St O bs (if wr then K.set id o1 else K) (putD (gives an o.dst o.op E) o.dst (tidy o.op v)) a o.dst next) : o.wp P a w next Q := by
  rw [hop] at hq
  simp only [req, Op.operands, List.map_cons, List.map_nil] at hq
  split at hq
  · split at hq <;> simp at hq
  · split at hq <;> simp at hq
  · rename_i id' ver i j fo ft heq hfl
    split at hq
    · simp at hq
    rename_i hz
    simp only [Option.some.injEq, Req.upd.injEq] at hq
    obtain ⟨rfl, rfl, rfl, rfl⟩ := hq
    simp only [List.cons.injEq, and_true] at heq
    obtain ⟨es, rfl, rfl, rfl, hi⟩ := refArr_some hk
    have hx := inOf_VR hE an o.dst (.fieldAddr t x f) x
    rw [heq] at hx
    obtain ⟨b, cap, sz, g1, g2, g3, g4, g5, g6, g7⟩ := (hH.obj _ _ hid).row
    have hρ := hx.inv_aptr g1 rfl
    obtain ⟨fs, fd, e1, e2, rfl, rfl⟩ := fldOf_some hfl
    have htd : tidy o.op (.aptr id' ver i (j + fd.offset)) = .aptr id' ver i (j + fd.offset) := by simp [tidy, flagOp, hop, AV.strip]
    rw [htd] at hK
    cases b with
    | none => have := g6 rfl; omega
    | some b =>
      refine wp_read (cv := arrPtr (some b) sz i (j + fd.offset)) hH hE ht ?_ (fun u => by rw [hop]; rfl) (.aptr id' ver i (j + fd.offset) ver (some b) cap sz _ g1 (Nat.le_refl _) (fun _ => rfl) rfl) (fun es h => by cases h) (by simpa using hK)
      simp only [arrPtr, Option.map_some] at hρ ⊢
      unfold execOp
      simp [hop, Instr.fieldAt, run_underlying e1, e2, hρ, Instr.sureAddr, fieldPlace, run_sizeOf (w := w) hz, hz, Addr.add_lit, Nat.add_assoc]
  · cases hq
theorem wp_index_upd {an : Ann} {nid : Nat} {o : Oper} {t : TypeId} {x y : Operand} {id : Nat} {wr : Bool} {news : List AV} {k : AO → Option (AV × AO)} {o0 o1 : AO} {v : AV} {next : Act → World → Prop} {Q : Exit → Act → World → Prop}
    (hop : o.op = .indexAddr t x y) (hH : HI G w St O bs K) (hE : EI G w St O E a.tmps) (ht : ∀ t, o.dst = some t → t < a.tmps.size)
    (hq : req P an nid o.dst o.op (o.op.operands.toList.map (inOf an o.dst o.op E)) = some (.upd id wr news k)) (hid : K[id]? = some o0) (hk : k o0 = some (v, o1))
    (hK : Goes G w St O bs (if wr then K.set id o1 else K) (putD (gives an o.dst o.op E) o.dst (tidy o.op v)) a o.dst next) : o.wp P a w next Q := by
  rw [hop] at hq
  simp only [req, Op.operands, List.map_cons, List.map_nil] at hq
  split at hq
  · (repeat' split at hq) <;> simp at hq
  · rename_i id' ver off n kd i heq
    split at hq
    · rename_i e he
      simp only [Option.some.injEq, Req.upd.injEq] at hq
      obtain ⟨rfl, rfl, rfl, rfl⟩ := hq
      simp only [List.cons.injEq, and_true] at heq
      have hx := inOf_VR hE an o.dst (.indexAddr t x y) x
      have hy := inOf_VR hE an o.dst (.indexAddr t x y) y
      rw [heq.1] at hx
      rw [heq.2] at hy
      have ei := hy.inv_int
      have hobj := hH.obj _ _ hid
      unfold atArr at hk
      split at hk
      · rename_i ver' es
        split at hk
        · rename_i hc
          obtain ⟨rfl, hi0, hin, hoff, hu, hz⟩ := hc
          simp only [Option.some.injEq, Prod.mk.injEq] at hk
          obtain ⟨rfl, rfl⟩ := hk
          obtain ⟨b, cap, sz, g1, g2, g3, g4, g5, g6, g7⟩ := hobj.row
          have hρ := hx.inv_arr g1 rfl
          have hes : es ≠ [] := by intro h; subst h; simp at hoff; omega
          obtain ⟨r0, hr0⟩ := List.exists_mem_of_ne_nil _ hes
          have hsz : sz = szOf P e := by rw [← g4 r0 hr0]; exact uni_spec hu r0 hr0
          subst hsz
          have htd : tidy o.op (.aptr id' ver' (off + i.toNat) 0) = .aptr id' ver' (off + i.toNat) 0 := by simp [tidy, flagOp, hop, AV.strip]
          rw [htd] at hK
          cases b with
          | none => have := g6 rfl; omega
          | some b =>
            refine wp_read (cv := arrPtr (some b) (szOf P e) (off + i.toNat) 0) hH hE ht ?_ (fun u => by rw [hop]; rfl) (.aptr id' ver' (off + i.toNat) 0 ver' (some b) cap (szOf P e) _ g1 (Nat.le_refl _) (fun _ => rfl) rfl) (fun es h => by cases h) (by simpa using hK)
            simp only [arrVal, arrPtr, Option.map_some] at hρ ⊢
            have hbd : 0 ≤ i ∧ i < (n : Int) := ⟨hi0, hin⟩
            unfold execOp
            simp [hop, Instr.indexAt, run_underlying (selOf_some he), ei, hρ, asIntOf, hbd, run_sizeOf (w := w) hz, Addr.add_lit, Nat.add_mul]
        · cases hk
      · cases hk
    · cases hq
  · (repeat' split at hq) <;> simp at hq
  · (repeat' split at hq) <;> simp at hq
  · cases hq
theorem wp_slice_upd {an : Ann} {nid : Nat} {o : Oper} {t : TypeId} {x : Operand} {lo hi mx : Option Operand} {id : Nat} {wr : Bool} {news : List AV} {k : AO → Option (AV × AO)} {o0 o1 : AO} {v : AV} {next : Act → World → Prop} {Q : Exit → Act → World → Prop}
    (hop : o.op = .slice t x lo hi mx) (hH : HI G w St O bs K) (hE : EI G w St O E a.tmps) (ht : ∀ t, o.dst = some t → t < a.tmps.size)
    (hq : req P an nid o.dst o.op (o.op.operands.toList.map (inOf an o.dst o.op E)) = some (.upd id wr news k)) (hid : K[id]? = some o0) (hk : k o0 = some (v, o1))
    (hK : Goes G w St O bs (if wr then K.set id o1 else K) (putD (gives an o.dst o.op E) o.dst (tidy o.op v)) a o.dst next) : o.wp P a w next Q := by
  rw [hop] at hq
  simp only [req] at hq
  split at hq
  · cases hq
  · have hops : (Op.slice t x lo hi none).operands.toList = x :: (lo.toList ++ hi.toList) := by cases lo <;> cases hi <;> simp [Op.operands]
    have hf : ∀ y ∈ x :: (lo.toList ++ hi.toList), VR G w St (inOf an o.dst (.slice t x lo hi none) E y) (a.eval y) := fun y _ => inOf_VR hE an o.dst _ y
    rw [hops] at hq
    generalize hfd : inOf an o.dst (.slice t x lo hi none) E = f at hq hf
    simp only [List.map_cons] at hq
    have hx := hf x List.mem_cons_self
    have hL : ∀ y, (if lo.isSome = true then ((lo.toList ++ hi.toList).map f).head? else none) = some y → ∃ v, lo.map a.eval = some v ∧ VR G w St y v := by
      intro y hy
      cases lo with
      | none => simp at hy
      | some lo => simp at hy; subst hy; exact ⟨a.eval lo, rfl, hf lo (by simp)⟩
    have hLn : (if lo.isSome = true then ((lo.toList ++ hi.toList).map f).head? else none) = none → lo.map a.eval = none := by
      intro hy
      cases lo with
      | none => rfl
      | some lo => simp at hy
    have hH' : ∀ y, (if hi.isSome = true then (if lo.isSome = true then ((lo.toList ++ hi.toList).map f).tail.head? else ((lo.toList ++ hi.toList).map f).head?) else none) = some y → ∃ v, hi.map a.eval = some v ∧ VR G w St y v := by
      intro y hy
      cases hi with
      | none => simp at hy
      | some hi => cases lo <;> simp at hy <;> subst hy <;> exact ⟨a.eval hi, rfl, hf hi (by simp)⟩
    have hHn : (if hi.isSome = true then (if lo.isSome = true then ((lo.toList ++ hi.toList).map f).tail.head? else ((lo.toList ++ hi.toList).map f).head?) else none) = none → hi.map a.eval = none := by
      intro hy
      cases hi with
      | none => rfl
      | some hi => cases lo <;> simp at hy
    generalize (if lo.isSome = true then ((lo.toList ++ hi.toList).map f).head? else none) = L at hq hL hLn
    generalize (if hi.isSome = true then (if lo.isSome = true then ((lo.toList ++ hi.toList).map f).tail.head? else ((lo.toList ++ hi.toList).map f).head?) else none) = Hh at hq hH' hHn
    split at hq
    · cases hq
    · split at hq
      · (repeat' split at hq) <;> simp at hq
      · (repeat' split at hq) <;> simp at hq
      · rename_i id' ver off n hfx
        rw [hfx] at hx
        split at hq
        · rename_i e he
          split at hq
          · rename_i hh hhh
            split at hq
            · rename_i ll hll
              simp only [Option.some.injEq, Req.upd.injEq] at hq
              obtain ⟨rfl, rfl, rfl, rfl⟩ := hq
              have hobj := hH.obj _ _ hid
              unfold sliceArr at hk
              split at hk
              · rename_i ver' es
                split at hk
                · rename_i hc
                  obtain ⟨rfl, hlh, hhn, hoff, hu, hz⟩ := hc
                  simp only [Option.some.injEq, Prod.mk.injEq] at hk
                  obtain ⟨rfl, rfl⟩ := hk
                  obtain ⟨b, cap, sz, g1, g2, g3, g4, g5, g6, g7⟩ := hobj.row
                  have hρ := hx.inv_arr g1 rfl
                  have b1 := run_lowOf hll hL hLn
                  have b2 := run_highOf hhh hH' hHn
                  have hcap : n ≤ cap - off := by omega
                  have hb := run_bounds (P := P) (w := w) (isSlice := true) (len := n) (cap := cap - off) hcap hlh (b1.imp (fun h => ⟨h.2.1, h.2.2⟩) id) (b2.imp (fun h => ⟨h.2.1, h.2.2⟩) id)
                  have hel : P.elem t = e := by simp [Program.elem, selOf_some he]
                  have hu' : P.underlying t = some (.slice (P.elem t)) := by rw [hel]; exact selOf_some he
                  have hse : (sizeOf e).run P w = .ok (szOf P e) w := run_sizeOf hz
                  have hsz : ll = 0 ∨ sz = szOf P e := by
                    by_cases hes : es = []
                    · subst hes; simp at hoff; omega
                    · obtain ⟨r0, hr0⟩ := List.exists_mem_of_ne_nil _ hes
                      right; rw [← g4 r0 hr0]; exact uni_spec hu r0 hr0
                  have hrun : (execOp a.eval o).run P w = .ok (.value (sliced (b.map fun b => ⟨b, off * sz, none⟩) ll hh (cap - off) (szOf P e))) w := by
                    simp only [arrVal] at hρ
                    unfold execOp
                    simp [hop, hρ, run_sliceAt_slice w t _ _ _ _ hu', run_slice_any w t _ n (cap - off) hu', hb, hel, hse]
                  have hvr : VR G w St (if ll = 0 then .arr id' ver' off hh else if ll = hh then .slc false [] else .arr id' ver' (off + ll) (hh - ll)) (sliced (b.map fun b => ⟨b, off * sz, none⟩) ll hh (cap - off) (szOf P e)) := by
                    split
                    · rename_i h0
                      subst h0
                      refine .arr id' ver' off hh ver' b cap sz _ g1 (Nat.le_refl _) (fun _ => ?_) rfl
                      simp only [sliced, arrVal, Nat.zero_mul, Nat.sub_zero]
                      cases b with
                      | none => simp
                      | some b => simp [Addr.add_lit]
                    · rename_i h0
                      split
                      · rename_i h1
                        subst h1
                        simp only [sliced, Nat.sub_self]
                        refine .slc false [] 1 _ _ (fun _ _ => undef) (Nat.zero_le _) (by omega) (fun e h => by simp at h) (fun h => ?_) (fun h => absurd rfl h) (fun i e j x h => by simp at h)
                        cases b with
                        | none => have := g6 rfl; omega
                        | some b => split at h <;> simp at h
                      · rename_i h1
                        have hs := hsz.resolve_left h0
                        subst hs
                        refine .arr id' ver' (off + ll) (hh - ll) ver' b cap (szOf P e) _ g1 (Nat.le_refl _) (fun _ => ?_) rfl
                        simp only [sliced, arrVal]
                        rw [if_neg (by omega), show cap - off - ll = cap - (off + ll) by omega]
                        cases b with
                        | none => rfl
                        | some b => simp [Addr.add_lit, Nat.add_mul]
                  have hst : ∀ v : AV, v = (if ll = 0 then .arr id' ver' off hh else if ll = hh then .slc false [] else .arr id' ver' (off + ll) (hh - ll)) → tidy o.op v = v ∧ ∀ es, v ≠ .slc true es := by
                    intro v hv
                    rw [hv]
                    split
                    · exact ⟨by simp [tidy, flagOp, hop, AV.strip], fun es h => by cases h⟩
                    · split
                      · exact ⟨by simp [tidy, flagOp, hop, AV.strip], fun es h => by cases h⟩
                      · exact ⟨by simp [tidy, flagOp, hop, AV.strip], fun es h => by cases h⟩
                  rw [(hst _ rfl).1] at hK
                  exact wp_read hH hE ht hrun (fun u => by rw [hop]; rfl) hvr (hst _ rfl).2 (by simpa using hK)
                · cases hk
              · cases hk
            · cases hq
          · cases hq
        · cases hq
      · cases hq
end Go.VM
