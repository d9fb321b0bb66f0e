/- The machine carries a pure operation out just as it is told. -/
import Derived.Test.YtnjcokelpolpcaaGreatFwE
set_option linter.unusedVariables false
set_option linter.unusedSimpArgs false
set_option linter.unusedSectionVars false
set_option linter.unnecessarySimpa false
namespace Go.Proofs.Fw
open Go Go.RowKit

theorem repL_map_ev {E : Env} {st : St} {a : Act} {w : World} (hg : Good E st a w) : ∀ xs : List Operand, repL E w (xs.map (ev st)) (xs.map a.eval)
  | [] => by simp only [List.map_nil, repL]
  | x :: xs => by
    simp only [List.map_cons, repL]
    exact ⟨_, _, rfl, ev_rep hg x, repL_map_ev hg xs⟩

theorem repL_lit {E : Env} {w : World} : ∀ ys : List Value, repL E w (ys.map .lit) ys
  | [] => by simp only [List.map_nil, repL]
  | y :: ys => by simp only [List.map_cons, repL]; exact ⟨y, ys, rfl, rep_lit, repL_lit ys⟩

theorem foff_run {P : Program} {S : TypeId} {f k : Nat} (h : foff P S f = some k) {w : World} {b o : Nat} {a : Value} (ha : a = .pointer (some ⟨b, o, none⟩)) :
    (Instr.fieldAt S a f).run P w = .ok (.pointer (some ⟨b, o + k, none⟩)) w := by
  subst ha
  unfold foff at h
  split at h
  · rename_i fs hu
    cases hf : fs[f]? with
    | none => simp [hf] at h
    | some fd =>
      simp only [hf] at h
      cases hs : tsize P fd.type with
      | none => simp [hs] at h
      | some n =>
        cases n with
        | zero => simp [hs] at h
        | succ n =>
          simp only [hs, Option.some.injEq] at h; subst h
          simp [Instr.fieldAt, run_underlying hu, hf, Instr.sureAddr, fieldPlace, tsize_run hs, Addr.add_lit]
  · simp at h

theorem opt_fold {α : Type} : ∀ {l : List (Option α)} {r : List α}, optAll l = some r → l = r.map some
  | [], r, h => by simp [optAll] at h; subst h; rfl
  | some x :: l, r, h => by
    simp only [optAll] at h
    split at h
    · rename_i q hr
      simp only [Option.some.injEq] at h; subst h
      simp [opt_fold hr]
    · simp at h
  | none :: l, r, h => by simp [optAll] at h

theorem places_run {P : Program} {w : World} : ∀ (fs : List Field) (places : List (Nat × Nat)), (fs.map fun f => (tsize P f.type).map fun s => (f.offset, s)) = places.map some →
    (fs.mapM (m := Sem) fun f => do pure (f.offset, ← sizeOf f.type)).run P w = .ok places w
  | [], places, h => by
    cases places with
    | nil => simp
    | cons a b => simp at h
  | f :: fs, places, h => by
    cases places with
    | nil => simp at h
    | cons p places =>
      simp only [List.map_cons, List.cons.injEq] at h
      have ih := places_run (w := w) fs places h.2
      have h1 := h.1
      simp only [Option.map_eq_some_iff] at h1
      obtain ⟨s, h2, h3⟩ := h1
      subst h3
      simp only [List.mapM_cons, Sem.run_bind, tsize_run h2, Result.andThen_ok, ih, Sem.run_pure]

theorem zero_run {P : Program} {T : TypeId} {z : List Value} (h : tzero P T = some z) (w : World) : ∃ v, (zeroValue T).run P w = .ok v w ∧ v.cells = z.toArray := by
  unfold tzero at h
  cases hi : P.info? T with
  | none => simp [hi] at h
  | some i =>
    simp only [hi, Option.bind_some, Option.map_eq_some_iff] at h
    obtain ⟨v, h1, h2⟩ := h
    exact ⟨v, by simp [zeroValue, typeInfo, hi, h1], by rw [← h2]⟩

/-- One row of a list's cells. -/
theorem row_part {I : Nat → Nat → Prop} {w : World} {sz : Nat} : ∀ {rows : List (List V)} {i : Nat} {rr : List V} {xs : List Value}, (∀ r ∈ rows, r.length = sz) → rows[i]? = some rr → irepL I w rows.flatten xs →
    rr.length = sz ∧ irepL I w rr ((xs.drop (i * sz)).take sz)
  | [], i, rr, xs, _, h, _ => by simp at h
  | r :: rs, 0, rr, xs, hl, h, hx => by
    simp only [List.getElem?_cons_zero, Option.some.injEq] at h; subst h
    have hr := hl r (by simp)
    refine ⟨hr, ?_⟩
    have := irepL_take r.length hx
    rw [List.flatten_cons, List.take_left] at this
    simpa [hr] using this
  | r :: rs, i + 1, rr, xs, hl, h, hx => by
    have hr := hl r (by simp)
    have := irepL_drop r.length hx
    rw [List.flatten_cons, List.drop_left, hr] at this
    obtain ⟨h1, h2⟩ := row_part (fun q hq => hl q (List.mem_cons_of_mem _ hq)) (by simpa using h) this
    refine ⟨h1, ?_⟩
    rw [List.drop_drop] at h2
    rwa [show sz + i * sz = (i + 1) * sz from by rw [Nat.add_mul, Nat.one_mul, Nat.add_comm]] at h2

theorem apure_run {P : Program} {st : St} {hint : Hint} {o : Oper} {vc : VC} {v : V} (h : apure P st hint o.op = some (vc, v)) (hv : holds vc) {E : Env} {a : Act} {w : World} (hg : Good E st a w) :
    ∃ x, (execOp a.eval o).run P w = .ok (.value x) w ∧ rep E w v x := by
  obtain ⟨dst, op, type, pos, after, guard⟩ := o
  simp only at h
  unfold apure at h
  split at h
  case h_1 x => simp only [Option.some.injEq, Prod.mk.injEq] at h; obtain ⟨_, rfl⟩ := h; exact ⟨_, by simp [execOp], ev_rep hg x⟩
  case h_2 x => simp only [Option.some.injEq, Prod.mk.injEq] at h; obtain ⟨_, rfl⟩ := h; exact ⟨_, by simp [execOp], ev_rep hg x⟩
  case h_3 c x y =>
    have hc := ev_rep hg c
    split at h
    · rename_i e; rw [e] at hc; simp only [rep] at hc
      simp only [Option.some.injEq, Prod.mk.injEq] at h; obtain ⟨_, rfl⟩ := h
      exact ⟨a.eval x, by simp [execOp, hc, asBool], ev_rep hg x⟩
    · rename_i e; rw [e] at hc; simp only [rep] at hc
      simp only [Option.some.injEq, Prod.mk.injEq] at h; obtain ⟨_, rfl⟩ := h
      exact ⟨a.eval y, by simp [execOp, hc, asBool], ev_rep hg y⟩
    · simp at h
  case h_4 x =>
    have hx := ev_rep hg x
    split at h
    · rename_i l o' e; rw [e] at hx
      simp only [Option.some.injEq, Prod.mk.injEq] at h; obtain ⟨_, rfl⟩ := h
      have hx' := hx
      simp only [rep] at hx'
      obtain ⟨lc, _, h2⟩ := hx'
      refine ⟨a.eval x, by simp [execOp, h2], hx⟩
    · simp at h
  case h_5 T x =>
    have hx := ev_rep hg x
    split at h
    · rename_i l o' e; rw [e] at hx
      split at h
      · rename_i cs ho
        simp only [Option.map_eq_some_iff] at h
        obtain ⟨v', h1, h2⟩ := h
        simp only [Prod.mk.injEq] at h2; obtain ⟨rfl, rfl⟩ := h2
        simp only [rep] at hx
        obtain ⟨lc, k1, k2⟩ := hx
        obtain ⟨ys, g1, g2, _⟩ := hg.objs.ok l _ lc ho k1
        obtain ⟨z, p1, p2⟩ := aload_box h1 g1 g2
        exact ⟨z, by simp [execOp, Instr.loadAt, Instr.sureAddr, k2, p1], p2⟩
      · simp at h
    · rename_i cs e; rw [e] at hx
      simp only [Option.map_eq_some_iff] at h
      obtain ⟨v', h1, h2⟩ := h
      simp only [Prod.mk.injEq] at h2; obtain ⟨rfl, rfl⟩ := h2
      simp only [rep] at hx
      obtain ⟨b, o', k1, k2⟩ := hx
      obtain ⟨z, p1, p2⟩ := aload_imm h1 k2
      exact ⟨z, by simp at p1; simp [execOp, Instr.loadAt, Instr.sureAddr, k1, p1], p2⟩
    · rename_i l n sz i r e; rw [e] at hx
      split at h
      · rename_i e' sz' rows wr rr ho
        cases hnb : Nat.beq sz sz' with
        | false => simp [hnb] at h
        | true =>
        have hns := Nat.eq_of_beq_eq_true hnb; subst hns
        simp only [hnb, cond_true, Option.map_eq_some_iff] at h
        obtain ⟨v', h1, h2⟩ := h
        simp only [Prod.mk.injEq] at h2; obtain ⟨rfl, rfl⟩ := h2
        obtain ⟨hn, hrr⟩ := hv
        simp only [rep] at hx
        obtain ⟨b, o', h0, lc, k1, k2, k3⟩ := hx
        have hok := hg.objs.ok l _ lc ho k1
        obtain ⟨g1, g2, g3, xs, g4, g5, _⟩ := hok
        obtain ⟨rfl, cap, k4⟩ := k3 (by omega)
        have hcell : ∀ j u, xs[j]? = some u → w.cell? ⟨b, 0 + j, none⟩ = some u := fun j u hj => by
          have := g4.cells (g := b) (by rw [k4]; rfl) j u hj
          rwa [Addr.add_lit] at this
        obtain ⟨q1, q2⟩ := row_part g3 hrr g5
        have hm : ∀ j y, ((xs.drop (i * sz)).take sz)[j]? = some y → w.cell? ⟨b, i * sz + j, none⟩ = some y := fun j y hj => by
          rw [List.getElem?_take] at hj
          split at hj
          · have := hcell (i * sz + j) y (by simpa using hj); rwa [Nat.zero_add] at this
          · simp at hj
        obtain ⟨z, p1, p2⟩ := aload_mem (P := P) (E := E) h1 hm (irepL_repL q2)
        exact ⟨z, by simp [execOp, Instr.loadAt, Instr.sureAddr, h0, p1], p2⟩
      · simp at h
    · simp at h
  case h_6 S x f =>
    have hx := ev_rep hg x
    split at h
    · rename_i k l o' e1 e2; rw [e2] at hx
      simp only [Option.some.injEq, Prod.mk.injEq] at h; obtain ⟨_, rfl⟩ := h
      simp only [rep] at hx
      obtain ⟨lc, k1, k2⟩ := hx
      exact ⟨.pointer (some ⟨lc.blk, o' + k, none⟩), by simp [execOp, foff_run e1 k2], by simp only [rep]; exact ⟨lc, k1, rfl⟩⟩
    · rename_i k cs e1 e2; rw [e2] at hx
      cases hle : Nat.ble k cs.length with
      | false => simp [hle] at h
      | true =>
        simp only [hle, cond_true, Option.some.injEq, Prod.mk.injEq] at h; obtain ⟨_, rfl⟩ := h
        simp only [rep] at hx
        obtain ⟨b, o', k1, k2⟩ := hx
        exact ⟨.pointer (some ⟨b, o' + k, none⟩), by simp [execOp, foff_run e1 k1], by simp only [rep]; exact ⟨b, o' + k, rfl, icells_drop k k2 (Nat.le_of_ble_eq_true hle)⟩⟩
    · rename_i k l n sz i r e1 e2; rw [e2] at hx
      simp only [Option.some.injEq, Prod.mk.injEq] at h; obtain ⟨_, rfl⟩ := h
      simp only [rep] at hx
      obtain ⟨b, o', h0, lc, k1, k2, k3⟩ := hx
      refine ⟨.pointer (some ⟨b, o' + k, none⟩), by simp [execOp, foff_run e1 h0], ?_⟩
      simp only [rep]
      exact ⟨b, _, rfl, lc, k1, k2, fun e => ⟨by rw [(k3 e).1]; omega, (k3 e).2⟩⟩
    · simp at h
  case h_7 t i =>
    have hx := ev_rep hg t
    split at h
    · rename_i vs e; rw [e] at hx
      simp only [Option.map_eq_some_iff] at h
      obtain ⟨v', h1, h2⟩ := h
      simp only [Prod.mk.injEq] at h2; obtain ⟨rfl, rfl⟩ := h2
      simp only [rep] at hx
      obtain ⟨ys, k1, k2⟩ := hx
      obtain ⟨z, p1, p2⟩ := repL_get i v' k2 h1
      exact ⟨z, by simp [execOp, Instr.extract, k1, p1], p2⟩
    · simp at h
  case h_8 T x ix =>
    have hx := ev_rep hg x
    have hi := ev_rep hg ix
    split at h
    · rename_i e sz rows k i hu e1 e2; rw [e1] at hx; rw [e2] at hi
      split at h
      · rename_i n r hn
        cases hnb : Nat.beq n sz with
        | false => simp [hnb] at h
        | true =>
        have hns := Nat.eq_of_beq_eq_true hnb; subst hns
        simp only [hnb, cond_true, Option.some.injEq, Prod.mk.injEq] at h; obtain ⟨rfl, rfl⟩ := h
        obtain ⟨h0, h1⟩ := hv
        simp only [rep, irep] at hx hi
        obtain ⟨ad, cap, g1, g2, g3⟩ := hx
        have hlt : i.toNat < rows.length := (List.getElem?_eq_some_iff.1 h1).1
        rcases g3 with rfl | ⟨b, o', rfl, g3⟩
        · simp at hlt
        · refine ⟨.pointer (some ⟨b, o' + i.toNat * n, none⟩), ?_, ?_⟩
          · have h2 : i < (rows.length : Int) := by omega
            simp [execOp, Instr.indexAt, g1, hi, asIntOf, run_underlying hu, h0, h2, tsize_run hn, Addr.add_lit]
          · simp only [rep]
            exact ⟨b, _, rfl, (irows_get _ r g3 h1).2⟩
      · simp at h
    · rename_i e l n k i hu e1 e2; rw [e1] at hx; rw [e2] at hi
      split at h
      · rename_i m e' sz rows wr hm ho
        cases hnb : Nat.beq m sz with
        | false => simp [hnb] at h
        | true =>
        have hns := Nat.eq_of_beq_eq_true hnb; subst hns
        simp only [hnb, cond_true, Option.some.injEq, Prod.mk.injEq] at h; obtain ⟨rfl, rfl⟩ := h
        obtain ⟨h0, h1, h2⟩ := hv
        obtain ⟨lc, k1, k2, k3, k4⟩ := sref_val hg hx ho h2
        simp only [rep] at hi
        obtain ⟨_, hsz, _, xs, g1, _⟩ := k2
        rcases g1.2 with ⟨_, g2⟩ | ⟨g, cap, cur, g2, _⟩
        · omega
        · refine ⟨.pointer (some ⟨g, i.toNat * m, none⟩), ?_, ?_⟩
          · rw [g2] at k3
            have h3 : i < (rows.length : Int) := by omega
            simp [execOp, Instr.indexAt, k3, hi, asIntOf, run_underlying hu, h0, h3, tsize_run hm, Addr.add_lit]
          · simp only [rep]
            exact ⟨g, _, rfl, lc, k1, by omega, fun _ => ⟨by simp, cap, by rw [g2, h2]⟩⟩
      · simp at h
    · rename_i len e l o' k i hu e1 e2; rw [e1] at hx; rw [e2] at hi
      split at h
      · rename_i m hm
        simp only [Option.some.injEq, Prod.mk.injEq] at h; obtain ⟨rfl, rfl⟩ := h
        simp only [rep] at hx hi
        obtain ⟨lc, k1, k2⟩ := hx
        refine ⟨.pointer (some ⟨lc.blk, o' + i.toNat * m, none⟩), ?_, by simp only [rep]; exact ⟨lc, k1, rfl⟩⟩
        simp [execOp, Instr.indexAt, Instr.sureAddr, k2, hi, asIntOf, run_underlying hu, hv.1, hv.2, tsize_run hm, Addr.add_lit]
      · simp at h
    · simp at h
  case h_9 bop t x y ty =>
    have hx := ev_rep hg x
    have hy := ev_rep hg y
    split at h
    · rename_i r hr
      simp only [Option.some.injEq] at h; subst h
      obtain ⟨z, p1, p2⟩ := abin_run (P := P) (t := t) (p := x) (q := y) hr hv hx hy
      exact ⟨z, by simp only [execOp, Sem.run_bind] at p1 ⊢; simp [p1], p2⟩
    · obtain ⟨z, p1, p2⟩ := abinq_run (P := P) (p := x) (q := y) h hx hy
      exact ⟨z, by simp only [execOp, Sem.run_bind] at p1 ⊢; simp [p1], p2⟩
  case h_10 t x =>
    have hx := ev_rep hg x
    split at h
    · rename_i b e; rw [e] at hx
      simp only [Option.some.injEq, Prod.mk.injEq] at h; obtain ⟨_, rfl⟩ := h
      simp only [rep] at hx
      exact ⟨_, by simp [execOp, hx, Op.unary], rep_lit⟩
    · simp at h
  case h_11 src d x =>
    obtain ⟨z, p1, p2⟩ := aconv_run h (ev_rep hg x)
    exact ⟨z, by simp [execOp, p1], p2⟩
  case h_12 T x i =>
    obtain ⟨z, p1, p2⟩ := aidx_run (P := P) h hv (ev_rep hg x) (ev_rep hg i)
    exact ⟨z, by simp [execOp, p1], p2⟩
  case h_13 S x f =>
    have hx := ev_rep hg x
    split at h
    · rename_i fs cs hu e; rw [e] at hx
      cases hf : fs[f]? with
      | none => simp [hf] at h
      | some fd =>
        simp only [hf, Option.map_eq_some_iff] at h
        obtain ⟨v', h1, h2⟩ := h
        simp only [Prod.mk.injEq] at h2; obtain ⟨rfl, rfl⟩ := h2
        simp only [rep] at hx
        obtain ⟨ys, k1, k2⟩ := hx
        obtain ⟨z, p1, p2⟩ := apart_run h1 k2
        exact ⟨z, by simp [execOp, Instr.field, run_underlying hu, hf, k1, asAgg, p1], p2⟩
    · simp at h
  case h_14 t x lo hi mx =>
    obtain ⟨z, p1, p2⟩ := aslice_run (P := P) h hv hg (ev_rep hg x)
    exact ⟨z, by simp [execOp, p1], p2⟩
  case h_15 g first caps =>
    simp only [Option.some.injEq, Prod.mk.injEq] at h; obtain ⟨_, rfl⟩ := h
    refine ⟨.func (.func g) (first.map a.eval) (caps.map a.eval), by simp [execOp, Instr.makeFunc], ?_⟩
    simp only [rep]
    exact ⟨first.toList.map a.eval, caps.toList.map a.eval, by rw [← Array.toList_map, ← Array.toList_map, Array.toArray_toList, Array.toArray_toList], repL_map_ev hg first.toList, repL_map_ev hg caps.toList⟩
  case h_16 T parts =>
    split at h
    · rename_i z fs hz hu
      split at h
      · rename_i places hp
        simp only [Option.map_eq_some_iff] at h
        obtain ⟨cs, h1, h2⟩ := h
        simp only [Prod.mk.injEq] at h2; obtain ⟨rfl, rfl⟩ := h2
        obtain ⟨zv, z1, z2⟩ := zero_run hz w
        have hpl := places_run (P := P) (w := w) fs.toList places (opt_fold hp)
        obtain ⟨zs, f1, f2⟩ := afill_run (E := E) (w := w) (places[·]?) (parts.toList.map fun p => (p.1, ev st p.2)) (parts.toList.map fun p => (p.1, a.eval p.2)) (z.map .lit) z cs h1 (repL_lit z) (by simp) (by
          intro j i v i' x h3 h4
          simp only [List.getElem?_map, Option.map_eq_some_iff] at h3 h4
          obtain ⟨q, h5, h6⟩ := h3
          obtain ⟨q', h7, h8⟩ := h4
          rw [h5] at h7; simp only [Option.some.injEq] at h7; subst h7
          simp only [Prod.mk.injEq] at h6 h8
          obtain ⟨rfl, rfl⟩ := h6
          obtain ⟨rfl, rfl⟩ := h8
          exact ⟨rfl, ev_rep hg _⟩)
        refine ⟨.agg zs.toArray, ?_, by simp only [rep]; exact ⟨zs, rfl, f2⟩⟩
        have hm : (fs.mapM (m := Sem) fun f => do pure (f.offset, ← sizeOf f.type)).run P w = .ok places.toArray w := by
          rw [← Array.toArray_toList (xs := fs), List.mapM_toArray]
          simp only [Sem.run_map, hpl, Result.andThen_ok]
        have hf : Instr.fill (fun x => places.toArray[x]?) zv.cells (parts.map fun p => (p.1, a.eval p.2)).toList = some zs.toArray := by
          rw [z2]; simpa using f1
        simp only [execOp, Instr.build, Sem.run_bind, z1, Result.andThen_ok, run_underlying hu, hm, hf, Sem.run_pure]
      · simp at h
    · simp at h
  case h_17 args argTypes =>
    split at h
    · rename_i x t ha ht
      have e1 : args = #[x] := by rw [← Array.toArray_toList (xs := args), ha]
      have e2 : argTypes = #[t] := by rw [← Array.toArray_toList (xs := argTypes), ht]
      subst e1; subst e2
      obtain ⟨z, p1, p2⟩ := alen_run (P := P) h hv hg (ev_rep hg x) type
      exact ⟨z, by simp [execOp, resolve, invoke, builtin, p1], p2⟩
    · simp at h
  case h_18 args argTypes =>
    split at h
    · rename_i x r ha
      have e1 : args = (x :: r).toArray := by rw [← ha]
      subst e1
      simp only [Option.map_eq_some_iff] at h
      obtain ⟨v', h1, h2⟩ := h
      simp only [Prod.mk.injEq] at h2; obtain ⟨rfl, rfl⟩ := h2
      obtain ⟨z, p1, p2⟩ := amaxL_run (P := P) true (r.map (ev st)) _ (a.eval x) (r.map a.eval) v' h1 (ev_rep hg x) (repL_map_ev hg r)
      exact ⟨z, by simp only [cond_true] at p1; simp [execOp, resolve, invoke, builtin, Builtin.max_, p1], p2⟩
    · simp at h
  case h_19 args argTypes =>
    split at h
    · rename_i x r ha
      have e1 : args = (x :: r).toArray := by rw [← ha]
      subst e1
      simp only [Option.map_eq_some_iff] at h
      obtain ⟨v', h1, h2⟩ := h
      simp only [Prod.mk.injEq] at h2; obtain ⟨rfl, rfl⟩ := h2
      obtain ⟨z, p1, p2⟩ := amaxL_run (P := P) false (r.map (ev st)) _ (a.eval x) (r.map a.eval) v' h1 (ev_rep hg x) (repL_map_ev hg r)
      exact ⟨z, by simp only [cond_false] at p1; simp [execOp, resolve, invoke, builtin, Builtin.min_, p1], p2⟩
    · simp at h
  case h_20 => simp at h

end Go.Proofs.Fw
