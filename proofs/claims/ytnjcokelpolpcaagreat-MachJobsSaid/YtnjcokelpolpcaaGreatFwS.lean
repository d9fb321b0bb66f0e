/- Further operations: a row's beginning, maps made, interfaces looked at; regions of their own kind: a list held against nil, a row's end cleared. -/
import Derived.Test.YtnjcokelpolpcaaGreatFwR
import Derived.Lib.LazyBuf
set_option linter.unusedVariables false
set_option linter.unusedSimpArgs false
set_option linter.unusedSectionVars false
set_option linter.unnecessarySimpa false
namespace Go.Proofs.Fw
open Go Go.RowKit

/-! ### a row's beginning, under a new name -/
def cutV (k : Nat) : Value → Value
  | .slice a _ cap => .slice a k cap
  | v => v
theorem take_flat {sz : Nat} : ∀ {rows : List (List V)} (k : Nat), (∀ r ∈ rows, r.length = sz) → (rows.take k).flatten = rows.flatten.take (k * sz)
  | [], k, _ => by simp
  | r :: rows, 0, _ => by simp
  | r :: rows, k + 1, h => by
    have h1 := h r (by simp)
    have h2 := take_flat k (fun x hx => h x (List.mem_cons_of_mem _ hx)) (rows := rows)
    have h3 : (k + 1) * sz = sz + k * sz := by rw [Nat.add_mul, Nat.one_mul, Nat.add_comm]
    have h4 : sz + k * sz - sz = k * sz := Nat.add_sub_cancel_left _ _
    simp only [List.take_succ_cons, List.flatten_cons, h2]
    rw [List.take_append, h1, h3, h4, List.take_of_length_le (i := sz + k * sz) (l := r) (by rw [h1]; exact Nat.le_add_right _ _)]
theorem cut_row {E : Env} {st : St} {a : Act} {w : World} (hg : Good E st a w) {l l2 e sz : Nat} {rows : List (List V)} (ho : st.ob l = some (.row e sz rows true)) (hl : st.ob l2 = none) {lc : Loc} (h1 : E.loc l = some lc)
    {k : Nat} (hk : k ≤ rows.length) :
    Good (E.put l2 ⟨lc.blk, cutV k lc.row, k⟩) { st with ob := updf (updf st.ob l (some .gone)) l2 (some (.row e sz (rows.take k) true)) } a w ∧
    Ext E (mod E st.ob) w (E.put l2 ⟨lc.blk, cutV k lc.row, k⟩) w (updf (updf st.ob l (some .gone)) l2 (some (.row e sz (rows.take k) true))) ∧ LocKept E (E.put l2 ⟨lc.blk, cutV k lc.row, k⟩) := by
  have hne : l2 ≠ l := by rintro rfl; rw [ho] at hl; simp at hl
  obtain ⟨q1, q2, q3, xs, q4, q5, q6, q7⟩ := hg.objs.ok l _ lc ho h1
  have hE2 : E.loc l2 = none := dom_none hg.objs hl
  have hI : ImmKept E.imm E.imm w w := fun b o h => ⟨h, rfl⟩
  have hK := put_kept hE2 ⟨lc.blk, cutV k lc.row, k⟩
  have hob : (cutV k lc.row).ownBlock = lc.row.ownBlock := by
    rcases q4.2 with ⟨h6, _⟩ | ⟨g, cap, cur, h6, _⟩ <;> rw [h6] <;> rfl
  have hreal1 : RealO E (updf st.ob l (some .gone)) w := by
    refine hg.objs.change l hI (LocKept.refl E) (fun _ _ => rfl) (fun l' h => updf_other _ _ h) (by rw [h1, updf_same]; rfl) ?_ ?_ ?_ hg.objs.old
    · intro l' o' lc' b hn g1 g2 g3; exact ⟨rfl, fun i h => h⟩
    · intro o' lc' g1 g2
      simp only [updf_same, Option.some.injEq] at g1; subst g1; trivial
    · intro o' lc' b g1 g2 g3
      simp only [updf_same, Option.some.injEq] at g1; subst g1
      simp [blkOf] at g3
  have hdis : ∀ b, lc.row.ownBlock = some b → ∀ l' o' lc', updf st.ob l (some .gone) l' = some o' → E.loc l' = some lc' → blkOf lc' o' ≠ some b := by
    intro b hb l' o' lc' g1 g2 g3
    by_cases e : l' = l
    · subst e
      simp only [updf_same, Option.some.injEq] at g1; subst g1
      simp [blkOf] at g3
    · rw [updf_other _ _ e] at g1
      exact hg.objs.disj l' l o' _ lc' lc b e g1 ho g2 h1 g3 hb
  have hI2 : ImmKept E.imm (E.put l2 ⟨lc.blk, cutV k lc.row, k⟩).imm w w := hI
  refine ⟨⟨hg.size, hg.defs, fun i => rep_mono hI2 hK _ _ (hg.slots i), ?_⟩, ?_, hK⟩
  · refine hreal1.change l2 hI2 hK (fun l' h => by simp only [Env.put]; exact updf_other _ _ h) (fun l' h => updf_other _ _ h) (by simp [Env.put, updf_same]) ?_ ?_ ?_ hg.objs.old
    · intro l' o' lc' b hn g1 g2 g3; exact ⟨rfl, fun i h => h⟩
    · intro o' lc' g1 g2
      simp only [Env.put, updf_same, Option.some.injEq] at g1 g2
      subst g1; subst g2
      have hlen : (rows.take k).length = k := by rw [List.length_take]; omega
      refine ⟨by rw [hlen], q2, fun r hr => q3 r (List.mem_of_mem_take hr), xs.take (k * sz), ?_, ?_, ?_, ?_⟩
      · rw [hlen]
        obtain ⟨h5, h6⟩ := q4
        have hle : k * sz ≤ rows.length * sz := Nat.mul_le_mul_right _ hk
        refine ⟨by rw [List.length_take, h5]; omega, ?_⟩
        rcases h6 with ⟨h6, h7⟩ | ⟨g, cap, cur, h6, h7, h8, h9, h10, h11, h12⟩
        · left; have : k = 0 := by omega
          subst this; rw [h6]; exact ⟨rfl, rfl⟩
        · right
          refine ⟨g, cap, cur, by rw [h6]; rfl, h7, h8, by omega, h10, h11, ?_⟩
          rw [← h12, List.take_take]; congr 1; omega
      · rw [take_flat k q3]; exact irepL_take _ q5
      · intro b hb o _; exact q6 b (by rw [← hob]; exact hb) o (.inl rfl)
      · intro h; simp at h
    · intro o' lc' b g1 g2 g3 l' o'' lc'' hn k1 k2
      simp only [Env.put, updf_same, Option.some.injEq] at g1 g2
      subst g1; subst g2
      exact hdis b (by rw [← hob]; exact g3) l' o'' lc'' k1 k2
  · refine ⟨rfl, rfl, rfl, Nat.le_refl _, hI, fun _ _ _ => rfl, ?_, fun b o h => .inl h⟩
    rintro b ⟨l', lc', o', g1, g2, g3⟩
    by_cases e : l' = l2
    · subst e
      simp only [Env.put, updf_same, Option.some.injEq] at g1 g2
      subst g1; subst g2
      exact .inl ⟨l, lc, _, h1, ho, by show lc.row.ownBlock = some b; rw [← hob]; exact g3⟩
    · simp only [Env.put] at g1
      rw [updf_other _ _ e] at g1 g2
      by_cases e2 : l' = l
      · subst e2
        simp only [updf_same, Option.some.injEq] at g2; subst g2
        simp [blkOf] at g3
      · rw [updf_other _ _ e2] at g2
        exact .inl ⟨l', lc', o', g1, g2, g3⟩

theorem loc_of {E : Env} {st : St} {a : Act} {w : World} (hg : Good E st a w) {l : Nat} {o : Ob} (ho : st.ob l = some o) : ∃ lc, E.loc l = some lc := by
  have := hg.objs.dom l
  rw [ho] at this
  cases he : E.loc l with
  | none => rw [he] at this; simp at this
  | some lc => exact ⟨lc, rfl⟩

/-- xs[:k] of a row of one's own: the row is cut. -/
def adCut (P : Program) (st : St) (l : Nat) (o : Oper) : Option (VC × St) := match o.op with
  | .slice t x none (some h) none => match telem P t, ev st x, ev st h, st.ob l with
    | some e, .sref l0 n, .lit (.int k m), none => match st.ob l0, tsize P e with
      | some (.row e0 sz rows true), some s => bif st.fits o.dst then
          some (some (n = rows.length ∧ 0 ≤ m ∧ m ≤ (rows.length : Int)), { st with ob := updf (updf st.ob l0 (some .gone)) l (some (.row e0 sz (rows.take m.toNat) true)) }.set o.dst (.sref l m.toNat)) else none
      | _, _ => none
    | _, _, _, _ => none
  | _ => none
theorem sref_row {E : Env} {st : St} {a : Act} {w : World} (hg : Good E st a w) {l n e sz : Nat} {rows : List (List V)} {wr : Bool} (ho : st.ob l = some (.row e sz rows wr)) (hn : n = rows.length) {x : Value} (hx : rep E w (.sref l n) x) :
    ∃ lc, E.loc l = some lc ∧ x = lc.row := by
  simp only [rep] at hx
  obtain ⟨_, lc, h1, h2, h3⟩ := hx
  obtain ⟨q1, _⟩ := hg.objs.ok l _ lc ho h1
  exact ⟨lc, h1, h3 (by omega)⟩
theorem adCut_step {P : Program} {st st' : St} {l : Nat} {o : Oper} {vc : VC} (h : adCut P st l o = some (vc, st')) (hvc : holds vc) : Step P o st st' := by
  rintro Q E0 M0 w0 a w ⟨E, hg, he, hk⟩
  unfold adCut at h
  split at h
  · rename_i t x hh hop
    split at h
    · rename_i e l0 n k m hte hx hm hl
      split at h
      · rename_i e0 sz rows s ho hsz
        cases hb : st.fits o.dst with
        | false => simp [hb] at h
        | true =>
          simp only [hb, cond_true, Option.some.injEq, Prod.mk.injEq] at h
          obtain ⟨rfl, rfl⟩ := h
          obtain ⟨h1, h2, h3⟩ := hvc
          have hxv := ev_rep hg x
          rw [hx] at hxv
          obtain ⟨lc, g1, g2⟩ := sref_row hg ho h1 hxv
          have hmv := ev_rep hg hh
          rw [hm] at hmv; simp only [rep] at hmv
          obtain ⟨q1, q2, q3, xs, q4, _⟩ := hg.objs.ok l0 _ lc ho g1
          have hrun : (execOp a.eval o).run P w = .ok (.value (cutV m.toNat lc.row)) w := by
            have hcap : ∀ cap : Nat, m.toNat ≤ cap → (Instr.sliceBound (.int k m) cap .sliceAcap).run P w = .ok m.toNat w := by
              intro cap hc; simp [Instr.sliceBound, asIntOf, h2, show m ≤ (cap : Int) by omega]
            have hu := telem_eq hte
            rcases q4.2 with ⟨h6, h7⟩ | ⟨g, cap, cur, h6, _, _, h9, _⟩
            · rw [h6] at g2
              have h0 : m.toNat = 0 := by omega
              have := hcap 0 (by omega)
              rw [h0] at this
              simp [execOp, hop, g2, hmv, h6, Instr.sliceAt, Instr.slice, run_underlying hu, Instr.sliceBounds, tsize_run hsz, this, cutV, h0]
            · rw [h6] at g2
              simp [execOp, hop, g2, hmv, h6, Instr.sliceAt, Instr.slice, run_underlying hu, Instr.sliceBounds, tsize_run hsz, hcap cap (by omega), cutV, Addr.add_lit]
          unfold Oper.wp; rw [hrun]
          obtain ⟨r1, r2, r3⟩ := cut_row hg ho hl g1 (k := m.toNat) (by omega)
          refine ⟨⟨_, rfl⟩, Rl.put r1 (he.trans r2) (hk.trans r3) (by cases hd : o.dst <;> simpa [St.fits, hd] using hb) ?_⟩
          simp only [rep]
          refine ⟨?_, _, by simp only [Env.put]; exact updf_same _ _ _, Nat.le_refl _, fun _ => rfl⟩
          rcases q4.2 with ⟨h6, _⟩ | ⟨g, cap, cur, h6, _⟩ <;> rw [h6] <;> rfl
      · simp at h
    · simp at h
  · simp at h

/-! ### maps made -/
def adMkMap (P : Program) (st : St) (l : Nat) (o : Oper) : Option (VC × St) := match o.op with
  | .makeMap t none => match st.ob l with
    | none => bif st.fits o.dst then some (none, { st with ob := updf st.ob l (some (.map [])) }.set o.dst (.mref l)) else none
    | _ => none
  | _ => none
theorem adMkMap_step {P : Program} {st st' : St} {l : Nat} {o : Oper} {vc : VC} (h : adMkMap P st l o = some (vc, st')) (hvc : holds vc) : Step P o st st' := by
  rintro Q E0 M0 w0 a w ⟨E, hg, he, hk⟩
  unfold adMkMap at h
  split at h
  · rename_i t hop
    split at h
    · rename_i hl
      cases hb : st.fits o.dst with
      | false => simp [hb] at h
      | true =>
        simp only [hb, cond_true, Option.some.injEq, Prod.mk.injEq] at h
        obtain ⟨rfl, rfl⟩ := h
        have hrun : (execOp a.eval o).run P w = .ok (.value (.map (some w.heap.size))) (w.alloc (.map #[] 0)) := by
          simp [execOp, hop, Instr.makeMap]
        unfold Oper.wp; rw [hrun]
        obtain ⟨g1, g2, g3⟩ := fresh_ob hg hl (o := .map #[] 0) (lc := ⟨w.heap.size, undef, 0⟩) (ob := .map []) (fun b hb => by simpa [blkOf] using hb.symm)
          ⟨#[], 0, heap_alloc_new w _, by simp only [entRep], fun o ho => by have := hg.objs.old w.heap.size o ho; omega⟩
        exact ⟨⟨_, rfl⟩, Rl.put g1 (he.trans g2) (hk.trans g3) (by cases hd : o.dst <;> simpa [St.fits, hd] using hb) (by simp only [rep]; exact ⟨_, by simp only [Env.put]; exact updf_same _ _ _, rfl⟩)⟩
    · simp at h
  · simp at h

/-! ### interfaces looked at -/
def isIface (P : Program) (t : TypeId) : Bool := match P.underlying t with
  | some (.interface _) => true
  | _ => false
def isAny (P : Program) (t : TypeId) : Bool := match P.underlying t with
  | some (.interface ms) => ms.isEmpty
  | _ => false
theorem isAny_get {P : Program} {t : TypeId} (h : isAny P t = true) : ∃ ms, P.underlying t = some (.interface ms) ∧ ms.isEmpty = true := by
  unfold isAny at h
  split at h
  · rename_i ms hu; exact ⟨ms, hu, h⟩
  · simp at h
/-- A value, with its parts told if it has any. -/
def partV : Value → V
  | .agg ys => .agg (ys.toList.map V.lit)
  | v => .lit v
theorem repL_lits {E : Env} {w : World} : ∀ (l : List Value), repL E w (l.map V.lit) l
  | [] => by simp only [List.map_nil, repL]
  | v :: l => by simp only [List.map_cons, repL, rep]; exact ⟨v, l, rfl, rfl, repL_lits l⟩
theorem partV_rep {E : Env} {w : World} (v : Value) : rep E w (partV v) v := by
  unfold partV; split
  · simp only [rep]; exact ⟨_, by simp, repL_lits _⟩
  · simp only [rep]
def morePure (P : Program) (st : St) : Op → AR
  | .typeAssert x xt t true => match ev st x, P.underlying t, isIface P t with
    | .lit (.iface u v), some _, false => bif Nat.beq u t then some (none, .tup [partV v, .lit (.bool true)]) else none
    | _, _, _ => none
  | .binOp .eql t x y _ => match isAny P t, ev st x, ev st y with
    | true, .lit .nilIface, .lit .nilIface => some (none, .lit (.bool true))
    | true, .lit (.iface _ _), .lit .nilIface => some (none, .lit (.bool false))
    | _, _, _ => none
  | _ => none
theorem morePure_run {P : Program} {st : St} {o : Oper} {vc : VC} {v : V} (h : morePure P st o.op = some (vc, v)) {E : Env} {a : Act} {w : World} (hg : Good E st a w) :
    ∃ x, (execOp a.eval o).run P w = .ok (.value x) w ∧ rep E w v x := by
  unfold morePure at h
  split at h
  · rename_i x xt t hop
    have hx := ev_rep hg x
    split at h
    · rename_i u v' d hxv hu hif
      rw [hxv] at hx; simp only [rep] at hx
      cases hb : Nat.beq u t with
      | false => simp [hb] at h
      | true =>
        simp only [hb, cond_true, Option.some.injEq, Prod.mk.injEq] at h
        obtain ⟨_, rfl⟩ := h
        have e := Nat.eq_of_beq_eq_true hb; subst e
        refine ⟨.tuple #[v', .bool true], ?_, by simp only [rep, repL]; exact ⟨[v', .bool true], rfl, _, _, rfl, partV_rep v', _, _, rfl, rfl, rfl⟩⟩
        unfold isIface at hif
        simp only [execOp, hop, hx]
        cases d <;> simp [hu] at hif <;> simp [Instr.typeAssert, run_underlying hu]
    · simp at h
  · rename_i t x y u hop
    have hx := ev_rep hg x; have hy := ev_rep hg y
    split at h
    · rename_i hi hxv hyv
      simp only [Option.some.injEq, Prod.mk.injEq] at h; obtain ⟨_, rfl⟩ := h
      rw [hxv] at hx; rw [hyv] at hy; simp only [rep] at hx hy
      obtain ⟨ms, hu, hm⟩ := isAny_get hi
      have h1 : ∀ d : Nat, (Op.equalIn (d + 1) t .nilIface .nilIface).run P w = .ok true w := fun d => by simp [Op.equalIn, run_underlying hu]
      have h2 : ∀ d : Nat, (Op.eqGuardIn (d + 1) t .nilIface .nilIface).run P w = .ok false w := fun d => by simp [Op.eqGuardIn, run_underlying hu, hm]
      have h3 : ∀ p q, (eqGuard .eql t p q .nilIface .nilIface).run P w = .ok () w := by
        intro p q
        unfold eqGuard
        split <;> simp [Op.maxDepth, h2 9999]
      refine ⟨.bool true, ?_, by simp only [rep]⟩
      simp only [execOp, hop, hx, hy]
      simp [h3, binOp, Op.equal, Op.maxDepth, h1 9999]
    · rename_i tt vv hi hxv hyv
      simp only [Option.some.injEq, Prod.mk.injEq] at h; obtain ⟨_, rfl⟩ := h
      rw [hxv] at hx; rw [hyv] at hy; simp only [rep] at hx hy
      obtain ⟨ms, hu, hm⟩ := isAny_get hi
      have h1 : ∀ d : Nat, (Op.equalIn (d + 1) t (.iface tt vv) .nilIface).run P w = .ok false w := fun d => by simp [Op.equalIn, run_underlying hu]
      have h2 : ∀ d : Nat, (Op.eqGuardIn (d + 1) t (.iface tt vv) .nilIface).run P w = .ok false w := fun d => by simp [Op.eqGuardIn, run_underlying hu]
      have h3 : ∀ p q, (eqGuard .eql t p q (.iface tt vv) .nilIface).run P w = .ok () w := by
        intro p q
        unfold eqGuard
        split <;> simp [Op.maxDepth, h2 9999]
      refine ⟨.bool false, ?_, by simp only [rep]⟩
      simp only [execOp, hop, hx, hy]
      simp [h3, binOp, Op.equal, Op.maxDepth, h1 9999]
    · simp at h
  · simp at h

/-! ### xs[i:] of a row of one's own, only looked at -/
def adSkip (P : Program) (st : St) (o : Oper) : Option (VC × St) := match o.op with
  | .slice t x (some h) none none => match telem P t, ev st x, ev st h with
    | some e, .sref l0 n, .lit (.int k m) => match st.ob l0, tsize P e with
      | some (.row e0 sz rows wr), some s => bif st.fits o.dst then some (some (n = rows.length ∧ 0 ≤ m ∧ m ≤ (rows.length : Int)), st.set o.dst .dead) else none
      | _, _ => none
    | _, _, _ => none
  | _ => none
theorem adSkip_step {P : Program} {st st' : St} {o : Oper} {vc : VC} (h : adSkip P st o = some (vc, st')) (hvc : holds vc) : Step P o st st' := by
  unfold adSkip at h
  split at h
  · rename_i t x hh hop
    split at h
    · rename_i e l0 n k m hte hx hm
      split at h
      · rename_i e0 sz rows wr s ho hsz
        cases hb : st.fits o.dst with
        | false => simp [hb] at h
        | true =>
          simp only [hb, cond_true, Option.some.injEq, Prod.mk.injEq] at h
          obtain ⟨rfl, rfl⟩ := h
          obtain ⟨h1, h2, h3⟩ := hvc
          refine Step.pure hb (fun E a w hg => ?_)
          have hxv := ev_rep hg x
          rw [hx] at hxv
          obtain ⟨lc, g1, g2⟩ := sref_row hg ho h1 hxv
          have hmv := ev_rep hg hh
          rw [hm] at hmv; simp only [rep] at hmv
          obtain ⟨q1, q2, q3, xs, q4, _⟩ := hg.objs.ok l0 _ lc ho g1
          have hcap : ∀ c : Nat, m.toNat ≤ c → (Instr.sliceBound (.int k m) c .sliceB).run P w = .ok m.toNat w := by
            intro c hc; simp [Instr.sliceBound, asIntOf, h2, show m ≤ (c : Int) by omega]
          have hu := telem_eq hte
          rcases q4.2 with ⟨h6, h7⟩ | ⟨g, cap, cur, h6, _, _, h9, _⟩
          · rw [h6] at g2
            have h0 : m.toNat = 0 := by omega
            have := hcap 0 (by omega)
            rw [h0] at this
            refine ⟨_, by simp [execOp, hop, g2, hmv, Instr.sliceAt, Instr.slice, run_underlying hu, Instr.sliceBounds, tsize_run hsz, this]; exact rfl, by simp only [rep]⟩
          · rw [h6] at g2
            refine ⟨_, by simp [execOp, hop, g2, hmv, Instr.sliceAt, Instr.slice, run_underlying hu, Instr.sliceBounds, tsize_run hsz, hcap rows.length (by omega)]; exact rfl, by simp only [rep]⟩
      · simp at h
    · simp at h
  · simp at h
theorem adSkip_chg {P : Program} {st st' : St} {o : Oper} {vc : VC} (h : adSkip P st o = some (vc, st')) (k : Nat) : st'.ob k = st.ob k := by
  unfold adSkip at h
  split at h
  · split at h
    · split at h
      · cases hb : st.fits o.dst with
        | false => simp [hb] at h
        | true =>
          simp only [hb, cond_true, Option.some.injEq, Prod.mk.injEq] at h
          rw [← h.2, set_obN]
      · simp at h
    · simp at h
  · simp at h

/-! ### hooked in -/
def amore (P : Program) (st : St) (l : Nat) (o : Oper) : Option (VC × St) :=
  match morePure P st o.op with
  | some (vc, v) => bif st.fits o.dst then some (vc, st.set o.dst v) else none
  | none => orR (orR (adCut P st l o) (adMkMap P st l o)) (adSkip P st o)
theorem amore_step {P : Program} {st st' : St} {l : Nat} {o : Oper} {vc : VC} (h : amore P st l o = some (vc, st')) (hvc : holds vc) : Step P o st st' := by
  unfold amore at h
  split at h
  · rename_i vc' v hp
    cases hf : st.fits o.dst with
    | false => simp [hf] at h
    | true =>
      simp only [hf, cond_true, Option.some.injEq, Prod.mk.injEq] at h
      obtain ⟨rfl, rfl⟩ := h
      exact Step.pure hf (fun E a w hg => morePure_run hp hg)
  · rcases orR_some h with h | h
    · rcases orR_some h with h | h
      · exact adCut_step h hvc
      · exact adMkMap_step h hvc
    · exact adSkip_step h hvc
def chgM (st : St) (o : Oper) (l : Nat) : List Nat := match o.op with
  | .slice _ x none (some _) none => match ev st x with
    | .sref l0 _ => [l0, l]
    | _ => []
  | .makeMap _ _ => [l]
  | _ => []
theorem amore_chg {P : Program} {st st' : St} {l : Nat} {o : Oper} {vc : VC} (h : amore P st l o = some (vc, st')) (k : Nat) (hk : k ∉ chgM st o l) : st'.ob k = st.ob k := by
  unfold amore at h
  split at h
  · rename_i vc' v hp
    cases hf : st.fits o.dst with
    | false => simp [hf] at h
    | true =>
      simp only [hf, cond_true, Option.some.injEq, Prod.mk.injEq] at h
      rw [← h.2, set_obN]
  · rcases orR_some h with h | h
    rotate_left
    · exact adSkip_chg h k
    rcases orR_some h with h | h
    · unfold adCut at h
      split at h
      · rename_i t x hh hop
        simp only [chgM, hop] at hk
        split at h
        · rename_i e l0 n kk m hte hx hm hl
          simp only [hx] at hk
          split at h
          · cases hb : st.fits o.dst with
            | false => simp [hb] at h
            | true =>
              simp only [hb, cond_true, Option.some.injEq, Prod.mk.injEq] at h
              rw [← h.2, set_obN]
              simp only [List.mem_cons, List.not_mem_nil, or_false, not_or] at hk
              show updf _ _ _ k = _
              rw [updf_other _ _ hk.2, updf_other _ _ hk.1]
          · simp at h
        · simp at h
      · simp at h
    · unfold adMkMap at h
      split at h
      · rename_i t hop
        simp only [chgM, hop] at hk
        split at h
        · cases hb : st.fits o.dst with
          | false => simp [hb] at h
          | true =>
            simp only [hb, cond_true, Option.some.injEq, Prod.mk.injEq] at h
            rw [← h.2, set_obN]; exact updfN hk
        · simp at h
      · simp at h
def arare2 (P : Program) (st : St) (l : Nat) (hv : Option V) (o : Oper) : Option (VC × St) := orR (arare P st l hv o) (amore P st l o)
theorem arare2_step {P : Program} {st st' : St} {l : Nat} {hv : Option V} {o : Oper} {vc : VC} (h : arare2 P st l hv o = some (vc, st')) (hvc : holds vc) : Step P o st st' := by
  rcases orR_some h with h | h
  · exact arare_step h hvc
  · exact amore_step h hvc
def chgR2 (st : St) (o : Oper) (l : Nat) : List Nat := chgR st o l ++ chgM st o l
theorem arare2_chg {P : Program} {st st' : St} {l : Nat} {hv : Option V} {o : Oper} {vc : VC} (h : arare2 P st l hv o = some (vc, st')) (k : Nat) (hk : k ∉ chgR2 st o l) : st'.ob k = st.ob k := by
  simp only [chgR2, List.mem_append, not_or] at hk
  rcases orR_some h with h | h
  · exact arare_chg h k hk.1
  · exact amore_chg h k hk.2
end Go.Proofs.Fw
