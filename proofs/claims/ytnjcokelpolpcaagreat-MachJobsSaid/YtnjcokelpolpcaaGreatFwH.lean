/- Lists made on the spot; lists that are shared from now on; a state told with less. -/
import Derived.Test.YtnjcokelpolpcaaGreatFwG
set_option linter.unusedVariables false
set_option linter.unusedSimpArgs false
set_option linter.unusedSectionVars false
set_option linter.unnecessarySimpa false
namespace Go.Proofs.Fw
open Go Go.RowKit

/-- A cell as it may stand in memory that isn't changed any more. -/
def toImm (st : St) (v : V) : Option (VC × V) := match v with
  | .lit x => bif x.oneCell' then some (none, .lit x) else none
  | .sl sz rows => some (none, .sl sz rows)
  | .sref l n => match st.ob l with
    | some (.row _ sz rows false) => some (some (n = rows.length), .sl sz rows)
    | _ => none
  | _ => none

theorem shared_irep {E : Env} {w : World} {lc : Loc} {e sz : Nat} {rows : List (List V)} (h : okOb E w lc (.row e sz rows false)) : irep E.imm w (.sl sz rows) lc.row := by
  obtain ⟨q1, q2, q3, xs, q4, q5, q6, q7⟩ := h
  simp only [irep]
  rcases q4.2 with ⟨hv, hz⟩ | ⟨g, cap, cur, hv, _, hg, hnc, hcm, _⟩
  · have : rows = [] := List.eq_nil_of_length_eq_zero hz
    subst this
    exact ⟨none, 0, by rw [hv]; rfl, ⟨by simp, by simp⟩, .inl rfl⟩
  · refine ⟨some ⟨g, 0, none⟩, cap, hv, ⟨hnc, hcm⟩, .inr ⟨g, 0, rfl, irows_of q3 (icells_of q5 (fun j y hy => ?_) (fun j hj => ?_))⟩⟩
    · have := q4.cells (g := g) (by rw [hv]; rfl) j y hy
      rwa [Addr.add_lit] at this
    · rw [Nat.zero_add]
      exact q7 rfl g (by rw [hv]; rfl) j (by have := q4.1; omega)

theorem toImm_rep {E : Env} {st : St} {a : Act} {w : World} (hg : Good E st a w) {v v' : V} {vc : VC} (h : toImm st v = some (vc, v')) (hv : holds vc) {x : Value} (hx : rep E w v x) : irep E.imm w v' x := by
  unfold toImm at h
  split at h
  · rename_i u
    cases ho : u.oneCell' with
    | false => simp [ho] at h
    | true =>
      simp only [ho, cond_true, Option.some.injEq, Prod.mk.injEq] at h; obtain ⟨_, rfl⟩ := h
      simp only [rep] at hx
      simp only [irep]; exact ⟨hx, ho⟩
  · simp only [Option.some.injEq, Prod.mk.injEq] at h; obtain ⟨_, rfl⟩ := h
    simpa only [rep] using hx
  · rename_i l n
    split at h
    · rename_i e sz rows ho
      simp only [Option.some.injEq, Prod.mk.injEq] at h; obtain ⟨rfl, rfl⟩ := h
      obtain ⟨lc, h1, h2, rfl, h3⟩ := sref_val hg hx ho hv
      exact shared_irep h2
    · simp at h
  · simp at h

def andC : VC → VC → VC
  | none, b => b
  | a, none => a
  | some p, some q => some (p ∧ q)
theorem andC_holds {a b : VC} (h : holds (andC a b)) : holds a ∧ holds b := by
  cases a <;> cases b <;> simp only [andC, holds] at h ⊢ <;> first | exact ⟨trivial, trivial⟩ | exact ⟨trivial, h⟩ | exact ⟨h, trivial⟩ | exact h

def toImmL (st : St) : List V → Option (VC × List V)
  | [] => some (none, [])
  | v :: vs => match toImm st v, toImmL st vs with
    | some (p, v'), some (q, vs') => some (andC p q, v' :: vs')
    | _, _ => none
theorem toImmL_rep {E : Env} {st : St} {a : Act} {w : World} (hg : Good E st a w) : ∀ {vs vs' : List V} {vc : VC}, toImmL st vs = some (vc, vs') → holds vc → ∀ {xs : List Value}, repL E w vs xs → irepL E.imm w vs' xs
  | [], vs', vc, h, _, xs, hx => by
    simp only [toImmL, Option.some.injEq, Prod.mk.injEq] at h; obtain ⟨_, rfl⟩ := h
    simpa only [repL, irepL] using hx
  | v :: vs, vs', vc, h, hv, xs, hx => by
    simp only [toImmL] at h
    split at h
    · rename_i p v' q us h1 h2
      simp only [Option.some.injEq, Prod.mk.injEq] at h; obtain ⟨rfl, rfl⟩ := h
      simp only [repL] at hx
      obtain ⟨y, ys, rfl, g1, g2⟩ := hx
      simp only [irepL]
      exact ⟨y, ys, rfl, toImm_rep hg h1 (andC_holds hv).1 g1, toImmL_rep hg h2 (andC_holds hv).2 g2⟩
    · simp at h

def chunks (sz : Nat) : Nat → List V → List (List V)
  | 0, _ => []
  | n + 1, l => l.take sz :: chunks sz n (l.drop sz)
theorem chunks_length (sz : Nat) : ∀ (n : Nat) (l : List V), (chunks sz n l).length = n
  | 0, _ => rfl
  | n + 1, l => by simp [chunks, chunks_length sz n]
theorem chunks_each (sz : Nat) : ∀ (n : Nat) (l : List V), l.length = n * sz → ∀ r ∈ chunks sz n l, r.length = sz
  | 0, _, _, r, hr => by simp [chunks] at hr
  | n + 1, l, h, r, hr => by
    simp only [chunks, List.mem_cons] at hr
    rw [Nat.add_mul, Nat.one_mul] at h
    rcases hr with rfl | hr
    · simp; omega
    · exact chunks_each sz n (l.drop sz) (by simp; omega) r hr
theorem chunks_flat (sz : Nat) : ∀ (n : Nat) (l : List V), l.length = n * sz → (chunks sz n l).flatten = l
  | 0, l, h => by simp at h; subst h; simp [chunks]
  | n + 1, l, h => by
    rw [Nat.add_mul, Nat.one_mul] at h
    simp only [chunks, List.flatten_cons]
    rw [chunks_flat sz n (l.drop sz) (by simp; omega), List.take_append_drop]

def adSlice (P : Program) (st : St) (l : Nat) (o : Oper) : Option (VC × St) := match o.op with
  | .buildSlice t len parts => match telem P t with
    | some e => match tsize P e, tzero P e, st.ob l with
      | some n, some z, none => match afill (fun i => some (i * n, n)) (((List.range (len * n)).map fun k => z.getD (k % z.length) undef).map .lit) (parts.toList.map fun p => (p.1, ev st p.2)) with
        | some cs => match toImmL st cs with
          | some (vc, cs') => bif Nat.beq z.length n && Nat.blt 0 n && Nat.ble (len * n) 16777216 && st.fits o.dst && Nat.beq cs.length (len * n) then
              some (vc, { st with ob := updf st.ob l (some (.row e n (chunks n len cs') true)) }.set o.dst (.sref l len)) else none
          | none => none
        | none => none
      | _, _, _ => none
    | none => none
  | _ => none

theorem toImmL_length {st : St} : ∀ {vs vs' : List V} {vc : VC}, toImmL st vs = some (vc, vs') → vs'.length = vs.length
  | [], vs', vc, h => by simp only [toImmL, Option.some.injEq, Prod.mk.injEq] at h; obtain ⟨_, rfl⟩ := h; rfl
  | v :: vs, vs', vc, h => by
    simp only [toImmL] at h
    split at h
    · rename_i p v' q us h1 h2
      simp only [Option.some.injEq, Prod.mk.injEq] at h; obtain ⟨rfl, rfl⟩ := h
      simp [toImmL_length h2]
    · simp at h

theorem adSlice_step {P : Program} {st st' : St} {l : Nat} {o : Oper} {vc : VC} (h : adSlice P st l o = some (vc, st')) (hv : holds vc) : Step P o st st' := by
  rintro Q E0 M0 w0 a w ⟨E, hg, he, hk⟩
  unfold adSlice at h
  split at h
  · rename_i t len parts hop
    split at h
    · rename_i e hte
      split at h
      · rename_i n z hn hz hl
        split at h
        · rename_i cs hfill
          split at h
          · rename_i vc' cs' himm
            cases hb : Nat.beq z.length n && Nat.blt 0 n && Nat.ble (len * n) 16777216 && st.fits o.dst && Nat.beq cs.length (len * n) with
            | false => simp [hb] at h
            | true =>
              simp only [hb, cond_true, Option.some.injEq, Prod.mk.injEq] at h
              obtain ⟨rfl, rfl⟩ := h
              simp only [Bool.and_eq_true] at hb
              obtain ⟨⟨⟨⟨b1, b2⟩, b3⟩, b4⟩, b5⟩ := hb
              have e1 := Nat.eq_of_beq_eq_true b1
              have e2 : 0 < n := by have := b2; simp [Nat.blt] at this; omega
              have e3 := Nat.le_of_ble_eq_true b3
              have e5 := Nat.eq_of_beq_eq_true b5
              obtain ⟨zv, z1, z2⟩ := zero_run hz w
              obtain ⟨zs, f1, f2⟩ := afill_run (E := E) (w := w) (fun i => some (i * n, n)) (parts.toList.map fun p => (p.1, ev st p.2)) (parts.toList.map fun p => (p.1, a.eval p.2)) _ _ cs hfill (repL_lit _) (by simp) (by
                intro j i v i' x h3 h4
                simp only [List.getElem?_map, Option.map_eq_some_iff] at h3 h4
                obtain ⟨q, h5, h6⟩ := h3
                obtain ⟨q', h7, h8⟩ := h4
                rw [h5] at h7; simp only [Option.some.injEq] at h7; subst h7
                simp only [Prod.mk.injEq] at h6 h8
                obtain ⟨rfl, rfl⟩ := h6
                obtain ⟨rfl, rfl⟩ := h8
                exact ⟨rfl, ev_rep hg _⟩)
              have hir := toImmL_rep hg himm hv f2
              have hcl : cs'.length = len * n := by rw [toImmL_length himm]; exact e5
              have hzl : zs.length = len * n := by rw [← irepL_length hir]; exact hcl
              have hlt : ¬ (len * n > 2 ^ 24) := by omega
              have hr : (execOp a.eval o).run P w = .ok (.value (.slice (some ⟨w.heap.size, 0, none⟩) len len)) (w.alloc (.cells zs.toArray e)) := by
                have hpl : (parts.map fun p => (p.1, a.eval p.2)).toList = parts.toList.map fun p => (p.1, a.eval p.2) := by simp
                by_cases hz0 : len * n = 0
                · have h0 : len = 0 := by
                    rcases Nat.mul_eq_zero.1 hz0 with h | h <;> omega
                  subst h0
                  simp at f1
                  have hr0 : Array.range 0 = #[] := rfl
                  simp [execOp, hop, Instr.buildSlice, run_underlying (telem_eq hte), tsize_run hn, hpl, hr0, f1, newRow]
                · have hcell : ((Array.range (len * n)).map fun k => zv.cells[k % zv.cells.size]!) = ((List.range (len * n)).map fun k => z.getD (k % z.length) undef).toArray := by
                    rw [z2]
                    apply Array.ext'
                    simp only [Array.toList_map, Array.toList_range, List.toList_toArray]
                    apply List.map_congr_left
                    intro k _
                    have : k % z.length < z.length := Nat.mod_lt _ (by omega)
                    simp [this, List.getD]
                  simp only [execOp, hop, Instr.buildSlice, Sem.run_bind, run_underlying (telem_eq hte), Result.andThen_ok, tsize_run hn, if_neg hlt, hz0, if_false, Sem.run_pure, z1, hcell, hpl]
                  simp at f1
                  simp [f1, newRow]
              unfold Oper.wp; rw [hr]
              have hE : E.loc l = none := dom_none hg.objs hl
              have hI : ImmKept E.imm (E.put l ⟨0, .slice (some ⟨w.heap.size, 0, none⟩) len len, len⟩).imm w (w.alloc (.cells zs.toArray e)) := alloc_imm hg.objs _
              obtain ⟨g1, g2, g3⟩ := fresh_ob hg hl (o := .cells zs.toArray e) (lc := ⟨0, .slice (some ⟨w.heap.size, 0, none⟩) len len, len⟩) (ob := .row e n (chunks n len cs') true) (fun b hb => by simpa [blkOf, Value.ownBlock] using hb.symm)
                ⟨(chunks_length n len cs').symm, e2, chunks_each n len cs' hcl, zs, by
                  refine ⟨by rw [chunks_length]; exact hzl, .inr ⟨w.heap.size, len, zs.toArray, by rw [chunks_length], Nat.zero_le _, heap_alloc_new w _, by rw [chunks_length]; exact Nat.le_refl _, ?_, by simp [hzl], ?_⟩⟩
                  · unfold maxLen; have : len ≤ len * n := Nat.le_mul_of_pos_right _ e2; omega
                  · rw [chunks_length]; simp [← hzl], by rw [chunks_flat n len cs' hcl]; exact irepL_mono hI _ _ hir, fun b hb o _ hi => by
                  simp [Value.ownBlock] at hb; subst hb
                  have := hg.objs.old _ o hi; omega, by simp⟩
              refine ⟨⟨_, rfl⟩, Rl.put g1 (he.trans g2) (hk.trans g3) (by cases hd : o.dst <;> simpa [St.fits, hd] using b4) ?_⟩
              simp only [rep]
              exact ⟨rfl, _, by simp only [Env.put]; exact updf_same _ _ _, Nat.le_refl _, fun _ => rfl⟩
          · simp at h
        · simp at h
      · simp at h
    · simp at h
  · simp at h

end Go.Proofs.Fw
