/- Sharing a list, telling less, calling. -/
import Derived.Test.YtnjcokelpolpcaaGreatFwI
set_option linter.unusedVariables false
set_option linter.unusedSimpArgs false
set_option linter.unusedSectionVars false
set_option linter.unnecessarySimpa false
namespace Go.Proofs.Fw
open Go Go.RowKit

/-! ### sharing -/
theorem share_row {E : Env} {st : St} {a : Act} {w : World} (hg : Good E st a w) {l e sz : Nat} {rows : List (List V)} {wr : Bool} (ho : st.ob l = some (.row e sz rows wr)) :
    ∃ E', Good E' { st with ob := updf st.ob l (some (.row e sz rows false)) } a w ∧ Ext E (mod E st.ob) w E' w (updf st.ob l (some (.row e sz rows false))) ∧ LocKept E E' := by
  obtain ⟨lc, h1⟩ : ∃ lc, E.loc l = some lc := by
    have := hg.objs.dom l
    rw [ho] at this
    cases he : E.loc l with
    | none => rw [he] at this; simp at this
    | some lc => exact ⟨lc, rfl⟩
  obtain ⟨q1, q2, q3, xs, q4, q5, q6, q7⟩ := hg.objs.ok l _ lc ho h1
  let E' : Env := ⟨E.loc, fun b o => E.imm b o ∨ (lc.row.ownBlock = some b ∧ o < rows.length * sz)⟩
  have hI : ImmKept E.imm E'.imm w w := fun b o h => ⟨.inl h, rfl⟩
  have hK : LocKept E E' := LocKept.refl E
  have hmod : ∀ b, lc.row.ownBlock = some b → mod E st.ob b := fun b hb => ⟨l, lc, _, h1, ho, hb⟩
  refine ⟨E', ⟨hg.size, hg.defs, fun i => rep_mono hI hK _ _ (hg.slots i), ?_⟩, ?_, hK⟩
  · refine hg.objs.change l hI hK (fun _ _ => rfl) (fun l' h => updf_other _ _ h) (by simp [updf_same, E', h1]) ?_ ?_ ?_ ?_
    · intro l' o' lc' b hne g1 g2 g3
      refine ⟨rfl, fun i h => ?_⟩
      rcases h with h | ⟨h, _⟩
      · exact h
      · exact absurd h (fun h => hg.objs.disj l' l o' _ lc' lc b hne g1 ho g2 h1 g3 h)
    · intro o' lc' g1 g2
      have g2' : E.loc l = some lc' := g2
      rw [h1] at g2'
      simp only [updf_same, Option.some.injEq] at g1 g2'
      subst g1; subst g2'
      refine ⟨q1, q2, q3, xs, q4, irepL_mono hI _ _ q5, fun b hb o hh hi => ?_, fun _ b hb o hlt => .inr ⟨hb, hlt⟩⟩
      rcases hh with hh | hh
      · simp at hh
      · rcases hi with hi | ⟨_, hi⟩
        · exact q6 b hb o (.inr hh) hi
        · omega
    · intro o' lc' b g1 g2 g3 l' o'' lc'' hne k1 k2 hb
      have g2' : E.loc l = some lc' := g2
      rw [h1] at g2'
      simp only [updf_same, Option.some.injEq] at g1 g2'
      subst g1; subst g2'
      exact hg.objs.disj l' l o'' _ lc'' lc b hne k1 ho k2 h1 hb g3
    · intro b o h
      rcases h with h | ⟨h, _⟩
      · exact hg.objs.old b o h
      · exact ownBlock_lt q4 h
  · refine ⟨rfl, rfl, rfl, Nat.le_refl _, hI, fun _ _ _ => rfl, ?_, ?_⟩
    · rintro k ⟨l', lc', o', g1, g2, g3⟩
      by_cases hne : l' = l
      · subst hne
        have g1' : E.loc l' = some lc' := g1
        rw [h1] at g1'
        simp only [updf_same, Option.some.injEq] at g2 g1'
        subst g2; subst g1'
        exact .inl (hmod k g3)
      · rw [updf_other _ _ hne] at g2
        exact .inl ⟨l', lc', o', g1, g2, g3⟩
    · intro b o h
      rcases h with h | ⟨h, _⟩
      · exact .inl h
      · exact .inr (.inl (hmod b h))

def share1 (st : St) (l : Nat) : St := match st.ob l with
  | some (.row e sz rows _) => { st with ob := updf st.ob l (some (.row e sz rows false)) }
  | _ => st
def shares (st : St) : List Nat → St
  | [] => st
  | l :: ls => shares (share1 st l) ls

theorem Rl.share1' {E0 : Env} {M0 : Nat → Prop} {w0 : World} {st : St} {a : Act} {w : World} (h : Rl E0 M0 w0 st a w) (l : Nat) : Rl E0 M0 w0 (share1 st l) a w := by
  unfold Fw.share1
  split
  · rename_i e sz rows wr ho
    obtain ⟨E, hg, he, hk⟩ := h
    obtain ⟨E', g1, g2, g3⟩ := share_row hg ho
    exact ⟨E', g1, he.trans g2, hk.trans g3⟩
  · exact h
theorem Rl.sharesL {E0 : Env} {M0 : Nat → Prop} {w0 : World} {a : Act} {w : World} : ∀ {ls : List Nat} {st : St}, Rl E0 M0 w0 st a w → Rl E0 M0 w0 (shares st ls) a w
  | [], _, h => h
  | l :: ls, st, h => Rl.sharesL (ls := ls) (st := Fw.share1 st l) (Rl.share1' h l)

/-! ### telling less -/
def nilLit : Value → Prop
  | .slice none 0 0 => True
  | _ => False
def subLit (u u' : Value) : Prop := match u, u' with
  | .int k n, .int k' n' => k = k' ∧ n = n'
  | .bool b, .bool b' => b = b'
  | .string s, .string s' => s = s'
  | _, _ => u = u'
theorem subLit_eq {u u' : Value} (h : subLit u u') : u = u' := by
  unfold subLit at h
  split at h
  · obtain ⟨rfl, rfl⟩ := h; rfl
  · rw [h]
  · rw [h]
  · exact h
def subSl (ob : Nat → Option Ob) (v : V) (sz : Nat) (rows : List (List V)) : Prop := match v with
  | .sref l n => match ob l with
    | some (.row _ sz' rows' false) => n = rows'.length ∧ sz' = sz ∧ rows' = rows
    | _ => False
  | .sl sz' rows' => sz' = sz ∧ rows' = rows
  | .lit u => nilLit u ∧ rows = []
  | _ => False
mutual
/-- What holds of a value, and what is told of it. -/
def subV (ob : Nat → Option Ob) (v : V) : V → Prop
  | .dead => True
  | .agg ds => match v with
    | .agg cs => subL ob cs ds
    | _ => False
  | .tup ds => match v with
    | .tup cs => subL ob cs ds
    | _ => False
  | .sl sz rows => subSl ob v sz rows
  | .lit u' => match v with
    | .lit u => subLit u u'
    | _ => False
  | .ptr l o => v = .ptr l o
  | .rp l n sz i r => v = .rp l n sz i r
  | .ip cs => v = .ip cs
  | .sref l n => match v with
    | .sref l' n' => l' = l ∧ n' = n
    | _ => False
  | .mref l => v = .mref l
  | .clo g first caps => v = .clo g first caps
  | .own l n rows => v = .own l n rows
def subL (ob : Nat → Option Ob) (vs : List V) : List V → Prop
  | [] => vs = []
  | d :: ds => match vs with
    | c :: cs => subV ob c d ∧ subL ob cs ds
    | [] => False
end

theorem subSl_rep {E : Env} {st : St} {a : Act} {w : World} (hg : Good E st a w) {v : V} {sz : Nat} {rows : List (List V)} {x : Value} (h : subSl st.ob v sz rows) (hx : rep E w v x) : rep E w (.sl sz rows) x := by
  unfold subSl at h
  split at h
  · rename_i l n
    split at h
    · rename_i e sz' rows' ho
      obtain ⟨rfl, rfl, rfl⟩ := h
      obtain ⟨lc, h1, h2, rfl, h3⟩ := sref_val hg hx ho rfl
      exact irep_rep (shared_irep h2)
    · exact h.elim
  · obtain ⟨rfl, rfl⟩ := h; exact hx
  · rename_i u
    obtain ⟨h, rfl⟩ := h
    simp only [rep] at hx; subst hx
    unfold nilLit at h
    split at h
    · simp only [rep, irep]
      exact ⟨none, 0, rfl, ⟨by simp, by simp⟩, by simp⟩
    · exact h.elim
  · exact h.elim

mutual
theorem subV_rep {E : Env} {st : St} {a : Act} {w : World} (hg : Good E st a w) (v : V) : ∀ (v' : V) (x : Value), subV st.ob v v' → rep E w v x → rep E w v' x
  | .dead, x, _, _ => by simp only [rep]
  | .agg ds, x, h, hx => by
    cases v with
    | agg cs =>
      simp only [subV] at h
      simp only [rep] at hx ⊢
      obtain ⟨ys, h1, h2⟩ := hx
      exact ⟨ys, h1, subL_rep hg cs ds ys h h2⟩
    | _ => simp only [subV] at h
  | .tup ds, x, h, hx => by
    cases v with
    | tup cs =>
      simp only [subV] at h
      simp only [rep] at hx ⊢
      obtain ⟨ys, h1, h2⟩ := hx
      exact ⟨ys, h1, subL_rep hg cs ds ys h h2⟩
    | _ => simp only [subV] at h
  | .sl sz rows, x, h, hx => by simp only [subV] at h; exact subSl_rep hg h hx
  | .lit u', x, h, hx => by
    cases v with
    | lit u =>
      simp only [subV] at h
      rw [← subLit_eq h]; exact hx
    | _ => simp only [subV] at h
  | .ptr l o, x, h, hx => by simp only [subV] at h; rw [← h]; exact hx
  | .rp l n sz i r, x, h, hx => by simp only [subV] at h; rw [← h]; exact hx
  | .ip cs, x, h, hx => by simp only [subV] at h; rw [← h]; exact hx
  | .sref l n, x, h, hx => by
    cases v with
    | sref l' n' =>
      simp only [subV] at h
      obtain ⟨rfl, rfl⟩ := h; exact hx
    | _ => simp only [subV] at h
  | .mref l, x, h, hx => by simp only [subV] at h; rw [← h]; exact hx
  | .clo g first caps, x, h, hx => by simp only [subV] at h; rw [← h]; exact hx
  | .own l n rows, x, h, hx => by simp only [subV] at h; rw [← h]; exact hx
theorem subL_rep {E : Env} {st : St} {a : Act} {w : World} (hg : Good E st a w) (vs : List V) : ∀ (ds : List V) (xs : List Value), subL st.ob vs ds → repL E w vs xs → repL E w ds xs
  | [], xs, h, hx => by simp only [subL] at h; rw [← h]; exact hx
  | d :: ds, xs, h, hx => by
    cases vs with
    | nil => simp only [subL] at h
    | cons c cs =>
      simp only [subL] at h
      simp only [repL] at hx ⊢
      obtain ⟨y, ys, h1, h2, h3⟩ := hx
      exact ⟨y, ys, h1, subV_rep hg c d y h.1 h2, subL_rep hg cs ds ys h.2 h3⟩
end

/-! ### calls -/
inductive Out where
  | ret (v : V)
  | pan (v : Value)

def outRep (E : Env) (w : World) : Out → Ending → Prop
  | .ret v, e => ∃ x, e = .returned x ∧ rep E w v x
  | .pan v, e => e = .panicked [{ v, recovered := false }]

/-- What a function does: called with what stands for 'args', over the objects 'obs' that its arguments name. -/
def Fn (P : Program) (f : Nat) (obs : List Ob) (args : List V) (K : Out → List Ob → Prop) : Prop :=
  ∀ (E : Env) (w : World) (vals : List Value), RealO E (ofL obs) w → repL E w args vals → Calls P f vals.toArray w fun e w' =>
    ∃ out obs' E', K out obs' ∧ obs.length ≤ obs'.length ∧ outRep E' w' out e ∧ RealO E' (ofL obs') w' ∧ Ext E (mod E (ofL obs)) w E' w' (ofL obs') ∧ LocKept E E'

/-- Just this. -/
def Is (o : Out) (obs : List Ob) : Out → List Ob → Prop := fun o' obs' => o' = o ∧ obs' = obs

theorem Fn.mono {P : Program} {f : Nat} {obs : List Ob} {args : List V} {K K' : Out → List Ob → Prop} (h : Fn P f obs args K) (hk : ∀ o b, K o b → K' o b) : Fn P f obs args K' :=
  fun E w vals h1 h2 => (h E w vals h1 h2).mono fun e w' ⟨o, b, E', g1, g2⟩ => ⟨o, b, E', hk o b g1, g2⟩

def natNodup : List Nat → Bool
  | [] => true
  | n :: ns => !(ns.any (Nat.beq n)) && natNodup ns
theorem natNodup_nodup : ∀ {ns : List Nat}, natNodup ns = true → ns.Nodup
  | [], _ => List.nodup_nil
  | n :: ns, h => by
    simp only [natNodup, Bool.and_eq_true, Bool.not_eq_true', List.any_eq_false] at h
    refine List.nodup_cons.2 ⟨fun hm => ?_, natNodup_nodup h.2⟩
    exact h.1 n hm (by simp)

/-- The objects that a call gets, by its own names. -/
def obsAt (ob : Nat → Option Ob) (ns : List Nat) : List Ob → Nat → Bool → Prop
  | [], _, _ => True
  | o :: os, i, _ => ob (ns.getD i 0) = some (o.ren (ns.getD · 0)) ∧ obsAt ob ns os (i + 1) true

theorem obsAt_get {ob : Nat → Option Ob} {ns : List Nat} : ∀ {os : List Ob} {i : Nat} {b : Bool}, obsAt ob ns os i b → ∀ j o, os[j]? = some o → ob (ns.getD (i + j) 0) = some (o.ren (ns.getD · 0))
  | [], _, _, _, j, o, h => by simp at h
  | x :: os, i, b, h, j, o, ho => by
    simp only [obsAt] at h
    cases j with
    | zero => simp only [List.getElem?_cons_zero, Option.some.injEq] at ho; subst ho; exact h.1
    | succ j =>
      have := obsAt_get h.2 j o (by simpa using ho)
      rwa [Nat.add_assoc, Nat.add_comm 1 j] at this

def freshAt (ob : Nat → Option Ob) : List Nat → Bool
  | [] => true
  | n :: ns => (ob n).isNone && freshAt ob ns
theorem freshAt_get {ob : Nat → Option Ob} : ∀ {ns : List Nat}, freshAt ob ns = true → ∀ n ∈ ns, ob n = none
  | [], _, n, h => by simp at h
  | m :: ns, hf, n, h => by
    simp only [freshAt, Bool.and_eq_true, Option.isNone_iff_eq_none] at hf
    rcases List.mem_cons.1 h with rfl | h
    · exact hf.1
    · exact freshAt_get hf.2 n h

/-- A call's account: who is called, with what. -/
structure CallH where
  ns : List Nat
  obs : List Ob
  args : List V
  out : Out
  obs' : List Ob

def CallH.ok (c : CallH) (st : St) : Bool :=
  natNodup c.ns && Nat.beq c.obs'.length c.ns.length && Nat.ble c.obs.length c.obs'.length && freshAt st.ob (c.ns.drop c.obs.length) && c.obs.all (Ob.bd (Nat.blt · c.obs.length)) && c.obs'.all (Ob.bd (Nat.blt · c.obs'.length)) &&
  bdL (Nat.blt · c.obs.length) c.args

inductive ORes where
  | ok (st : St)
  | pan (v : Value) (st : St)

def CallH.res (c : CallH) (st : St) (d : Option Nat) : Option ORes := match c.out with
  | .ret v => bif st.fits d && V.bd (Nat.blt · c.obs'.length) v then some (.ok ({ st with ob := mergeO st.ob c.obs' c.ns }.set d (v.ren (c.ns.getD · 0)))) else none
  | .pan v => some (.pan v { st with ob := mergeO st.ob c.obs' c.ns })

/-- An operation, to its end: on to a state, or by a panic. -/
def StepX (P : Program) (o : Oper) (st : St) (r : ORes) : Prop := match r with
  | .ok st' => Step P o st st'
  | .pan v st' => ∀ (K : Act → World → Prop) (Q : Exit → Act → World → Prop) (E0 : Env) (M0 : Nat → Prop) (w0 : World) (a : Act) (w : World), Rl E0 M0 w0 st a w →
      (∀ a' w', Rl E0 M0 w0 st' a' w' → Q (.panic [{ v, recovered := false }]) a' w') → o.wp P a w K Q

def acallee (st : St) (f : Operand) : Option (Nat × List V × List V) := match ev st f with
  | .clo g first caps => some (g, first, caps)
  | _ => none

def adCall (P : Program) (st : St) (c : CallH) (o : Oper) : Option (VC × ORes) := match o.op with
  | .call { callee := .value f, args, .. } => match acallee st f with
    | some (g, first, caps) => match P.funcs[g]?, c.ok st, c.res st o.dst with
      | some fn, true, some r => bif fn.body.isSome && !(fn.name == "runtime.NumGoroutine") then
          some (some (Fn P g c.obs c.args (Is c.out c.obs') ∧ subL st.ob (first ++ args.toList.map (ev st) ++ caps) (renL (c.ns.getD · 0) c.args) ∧ obsAt st.ob c.ns c.obs 0 true), r) else none
      | _, _, _ => none
    | none => none
  | _ => none

theorem callFunc_run {P : Program} {g : Nat} {fn : Func} {args : Array Value} {w : World} (h : P.funcs[g]? = some fn) (hb : fn.body.isSome = true) (hn : (fn.name == "runtime.NumGoroutine") = false) :
    (callFunc g args).run P w = .ok (.enter g args) w := by
  have hb' : fn.body.isNone = false := by cases he : fn.body <;> simp [he] at hb ⊢
  simp only [callFunc, Sem.run_bind, run_program, Result.andThen_ok, h, hn, Bool.false_eq_true, if_false, hb', Sem.run_pure]

theorem adCall_step {P : Program} {st : St} {c : CallH} {o : Oper} {vc : VC} {r : ORes} (h : adCall P st c o = some (vc, r)) (hv : holds vc) : StepX P o st r := by
  unfold adCall at h
  split at h
  · rename_i f args argTypes hop
    split at h
    · rename_i g first caps hcal
      split at h
      · rename_i fn r' hfn hok hres
        cases hb : fn.body.isSome && !(fn.name == "runtime.NumGoroutine") with
        | false => simp [hb] at h
        | true =>
          simp only [hb, cond_true, Option.some.injEq, Prod.mk.injEq] at h
          obtain ⟨rfl, rfl⟩ := h
          obtain ⟨hF, hsub, hobs⟩ := hv
          simp only [Bool.and_eq_true, Bool.not_eq_true'] at hb
          simp only [CallH.ok, Bool.and_eq_true] at hok
          obtain ⟨⟨⟨⟨⟨⟨k1, k2⟩, k3⟩, k4⟩, k5⟩, k6⟩, k7⟩ := hok
          have hnd := natNodup_nodup k1
          have hl := Nat.eq_of_beq_eq_true k2
          have hle := Nat.le_of_ble_eq_true k3
          have hfresh : ∀ i, c.obs.length ≤ i → i < c.ns.length → st.ob (c.ns.getD i 0) = none := by
            intro i h1 h2
            refine freshAt_get k4 _ ?_
            rw [List.getD_eq_getElem?_getD, List.getElem?_eq_getElem h2]
            exact List.mem_iff_getElem?.2 ⟨i - c.obs.length, by rw [List.getElem?_drop, show c.obs.length + (i - c.obs.length) = i from by omega, List.getElem?_eq_getElem h2]; rfl⟩
          have hob : ∀ i, i < c.obs.length → st.ob (c.ns.getD i 0) = (c.obs[i]?).map (Ob.ren (c.ns.getD · 0)) := by
            intro i hi
            have := obsAt_get hobs i c.obs[i] (List.getElem?_eq_getElem hi)
            rw [Nat.zero_add] at this
            rw [this, List.getElem?_eq_getElem hi]; rfl
          -- the machine enters the function
          have enter : ∀ (E : Env) (a : Act) (w : World), Good E st a w → ∃ vals : List Value, (execOp a.eval o).run P w = .ok (.enter g vals.toArray) w ∧ repL (partE E c.ns c.obs.length) w c.args vals := by
            intro E a w hg
            have hf := ev_rep hg f
            unfold acallee at hcal
            split at hcal
            · rename_i g' first' caps' he
              simp only [Option.some.injEq, Prod.mk.injEq] at hcal
              obtain ⟨rfl, rfl, rfl⟩ := hcal
              rw [he] at hf
              simp only [rep] at hf
              obtain ⟨fs, cs, hf1, hf0, hf2⟩ := hf
              refine ⟨fs ++ args.toList.map a.eval ++ cs, ?_, ?_⟩
              · have : fs.toArray ++ args.map a.eval ++ cs.toArray = (fs ++ args.toList.map a.eval ++ cs).toArray := by
                  apply Array.ext'; simp
                have hcf := callFunc_run (args := fs.toArray ++ args.map a.eval ++ cs.toArray) (w := w) hfn hb.1 hb.2
                rw [← this]
                rw [Array.append_assoc] at hcf
                simp [execOp, hop, resolve, hf1, Deferred.ofValue, invoke, hcf]
              · have h1 := subL_rep hg _ _ _ hsub (repL_append (repL_append hf0 (repL_map_ev hg args.toList)) hf2)
                have hS : Same (partE E c.ns c.obs.length) E (c.ns.getD · 0) (Nat.blt · c.obs.length) := ⟨fun l hl => by simp [partE, blt_lt hl], rfl⟩
                exact (repL_ren hS c.args _ k7).2 h1
            · simp at hcal
          unfold CallH.res at hres
          split at hres
          · rename_i v hout
            cases hb2 : st.fits o.dst && V.bd (Nat.blt · c.obs'.length) v with
            | false => simp [hb2] at hres
            | true =>
              simp only [hb2, cond_true, Option.some.injEq] at hres
              subst hres
              simp only [Bool.and_eq_true] at hb2
              rintro Q E0 M0 w0 a w ⟨E, hg, he, hk⟩
              obtain ⟨vals, hr, hargs⟩ := enter E a w hg
              unfold Oper.wp; rw [hr]
              have hpart := part_real hg.objs hnd (by omega) hob k5
              refine (hF _ w vals hpart hargs).mono ?_
              rintro e w' ⟨out, obs', E', ⟨rfl, rfl⟩, g2, g3, g4, g5, g6⟩
              rw [hout] at g3
              obtain ⟨x, rfl, hx⟩ := g3
              obtain ⟨m1, m2, m3, m4⟩ := merge_real hg hnd hle hl hob hfresh k6 g4 g5 g6
              exact ⟨⟨_, rfl⟩, Rl.put m1 (he.trans m2) (hk.trans m3) (by cases hd : o.dst <;> simpa [St.fits, hd] using hb2.1) ((rep_ren m4 v x hb2.2).1 hx)⟩
          · rename_i v hout
            simp only [Option.some.injEq] at hres
            subst hres
            rintro K Q E0 M0 w0 a w ⟨E, hg, he, hk⟩ hq
            obtain ⟨vals, hr, hargs⟩ := enter E a w hg
            unfold Oper.wp; rw [hr]
            have hpart := part_real hg.objs hnd (by omega) hob k5
            refine (hF _ w vals hpart hargs).mono ?_
            rintro e w' ⟨out, obs', E', ⟨rfl, rfl⟩, g2, g3, g4, g5, g6⟩
            rw [hout] at g3
            obtain rfl := g3
            obtain ⟨m1, m2, m3, m4⟩ := merge_real hg hnd hle hl hob hfresh k6 g4 g5 g6
            exact hq a w' ⟨_, m1, he.trans m2, hk.trans m3⟩
      · simp at h
    · simp at h
  · simp at h

end Go.Proofs.Fw
