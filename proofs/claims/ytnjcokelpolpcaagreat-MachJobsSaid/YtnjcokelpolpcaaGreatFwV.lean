/- A function that leaves a closure behind (defer), which may recover. -/
import Derived.Test.YtnjcokelpolpcaaGreatFwP
import Derived.Recover
set_option linter.unusedVariables false
set_option linter.unusedSimpArgs false
set_option linter.unusedSectionVars false
set_option linter.unnecessarySimpa false
namespace Go.Proofs.Fw
open Go Go.RowKit

theorem wp_defers {P : Program} {o : Oper} {a : Act} {ds : List Deferred} {w : World} {next : Act → World → Prop} {Q : Exit → Act → World → Prop}
    (h : o.wp P { a with defers := [] } w (fun a' w' => a'.defers = [] ∧ next { a' with defers := ds } w') (fun e a' w' => Q e { a' with defers := ds } w')) : o.wp P { a with defers := ds } w next Q := by
  unfold Oper.wp at h ⊢
  have he : ({ a with defers := ds } : Act).eval = ({ a with defers := [] } : Act).eval := by funext x; cases x <;> rfl
  rw [he]
  have hput : ∀ (d : Option Nat) (v : Value), { (({ a with defers := [] } : Act).put d v) with defers := ds } = (({ a with defers := ds } : Act).put d v) := by
    intro d v; cases d <;> rfl
  generalize hr : (execOp ({ a with defers := [] } : Act).eval o).run P w = r at h ⊢
  cases r with
  | halt hl w' =>
    cases hl <;> simp only [Oper.upon] at h ⊢ <;> exact h
  | ok n w' =>
    cases n with
    | value v => simp only [Oper.upon] at h ⊢; rw [← hput]; exact h.2
    | skip => simp only [Oper.upon] at h ⊢; rw [← hput]; exact h.2
    | defer d =>
      simp only [Oper.upon] at h
      have := h.1
      cases hd : o.dst <;> simp [Act.put, hd] at this
    | enter f args =>
      simp only [Oper.upon] at h ⊢
      refine h.mono fun e w'' hh => ?_
      cases e with
      | returned v => simp only at hh ⊢; rw [← hput]; exact hh.2
      | panicked chain => exact hh
      | outgrown => obtain ⟨a', w3, h3⟩ := hh; exact ⟨_, w3, h3⟩
    | row r args =>
      simp only [Oper.upon] at h ⊢
      refine h.mono fun v w'' hh => ?_
      rw [← hput]; exact hh.2
    | _ => simp only [Oper.upon] at h

def AfterD (E0 : Env) (M0 : Nat → Prop) (w0 : World) (ds : List Deferred) (Q : Exit → Act → World → Prop) : ORes → Prop
  | .ok st' => ∀ a' w', a'.defers = ds → Rl E0 M0 w0 st' { a' with defers := [] } w' → Q .normal a' w'
  | .pan v st' => ∀ a' w', a'.defers = ds → Rl E0 M0 w0 st' { a' with defers := [] } w' → Q (.panic [{ v, recovered := false }]) a' w'
theorem act_eta {a : Act} {ds : List Deferred} (h : a.defers = ds) : { ({ a with defers := [] } : Act) with defers := ds } = a := by subst h; rfl
theorem Rl.defs0 {E0 : Env} {M0 : Nat → Prop} {w0 : World} {st : St} {a : Act} {w : World} (h : Rl E0 M0 w0 st a w) : a.defers = [] := by obtain ⟨E, hg, _⟩ := h; exact hg.defs
theorem act_back {a : Act} (h : a.defers = []) (ds : List Deferred) : { ({ a with defers := ds } : Act) with defers := [] } = a := by cases a; simp at h; subst h; rfl

theorem aregL_runD {P : Program} {nx : Nat} {all : Array Oper} {hs : List HintX} {Q : Exit → Act → World → Prop} {E0 : Env} {M0 : Nat → Prop} {w0 : World} {ds : List Deferred} : ∀ (ops : List Oper) (i : Nat) (st : St) (vc : VC) (r : ORes),
    aregL P nx all hs ops i st = some (vc, r) → holds vc → AfterD E0 M0 w0 ds Q r → ∀ a w, a.defers = ds → Rl E0 M0 w0 st { a with defers := [] } w → wpList P all Q ops a w
  | [], i, st, vc, r, h, hv, hq, a, w, hd, hr => by
    simp only [aregL, Option.some.injEq, Prod.mk.injEq] at h
    obtain ⟨_, rfl⟩ := h
    exact hq a w hd hr
  | o :: rest, i, st, vc, r, h, hv, hq, a, w, hd, hr => by
    simp only [aregL] at h
    obtain ⟨E, hg, _⟩ := id hr
    split at h
    · rename_i hgd
      split at h
      · rename_i vc1 st' hop
        split at h
        · rename_i vc2 r' hrest
          simp only [Option.some.injEq, Prod.mk.injEq] at h
          obtain ⟨rfl, rfl⟩ := h
          have hw := guard_run hg hgd
          simp only [wpList]
          rw [if_pos hw]
          left
          rw [← act_eta hd]
          refine wp_defers ?_
          have := aop_step hop (andC_holds hv).1 (fun e a' w' => Q e { a' with defers := ds } w') E0 M0 w0 _ w hr
          refine Oper.wp_mono (fun a' w' h' => ⟨h'.2.defs0, ?_⟩) this
          exact aregL_runD rest (i + 1) st' vc2 r' hrest (andC_holds hv).2 hq _ w' rfl (by rw [act_back h'.2.defs0]; exact h'.2)
        · simp at h
      · rename_i vc1 v st' hop
        simp only [Option.some.injEq, Prod.mk.injEq] at h
        obtain ⟨rfl, rfl⟩ := h
        have hw := guard_run hg hgd
        simp only [wpList]
        rw [if_pos hw]
        left
        rw [← act_eta hd]
        refine wp_defers ?_
        exact aop_step hop hv _ (fun e a' w' => Q e { a' with defers := ds } w') E0 M0 w0 _ w hr (fun a' w' h' => hq _ w' rfl (by rw [act_back h'.defs0]; exact h'))
      · simp at h
    · rename_i hgd
      cases hf : st.fits o.dst with
      | false => simp [hf] at h
      | true =>
        simp only [hf, cond_true] at h
        have hw := guard_skip hg hgd
        simp only [wpList]
        rw [if_neg (by rw [hw]; simp)]
        refine aregL_runD rest (i + 1) _ vc r h hv hq _ _ (by cases o.dst <;> exact hd) ?_
        obtain ⟨E, hg, he, hk⟩ := hr
        have := Rl.put hg he hk hf (v := .lit undef) (x := undef) (by simp only [rep])
        have e : ({ (a.put o.dst undef) with defers := [] } : Act) = ({ a with defers := [] } : Act).put o.dst undef := by cases o.dst <;> rfl
        rw [e]; exact this
    · simp at h

/-- d := a closure; defer d(). -/
structure DfrQ where
  d : Nat
  g : Nat
  caps : List V
def dfrReg (st : St) (ops : Array Oper) : Option DfrQ := match ops.toList with
  | [o1, o2] => match o1.guard, o2.guard, o1.op, o2.op, o1.dst, o2.dst with
    | none, none, .makeFunc (.func g) first caps, .defer { callee := .value (.tmp d), args := as, .. }, some d1, none => bif Nat.beq d d1 && first.isEmpty && as.isEmpty && st.fits (some d1) then some ⟨d, g, caps.toList.map (ev st)⟩ else none
    | _, _, _, _, _, _ => none
  | _ => none
theorem dfrReg_run {P : Program} {st : St} {ops : Array Oper} {q : DfrQ} (h : dfrReg st ops = some q) {gn : Func} {gc : Code} (hg0 : P.funcs[q.g]? = some gn) (hgb : gn.body = some gc) (hgn : (gn.name == "runtime.NumGoroutine") = false) {Q : Exit → Act → World → Prop} {E : Env} {a : Act} {w : World} (hg : Good E st a w)
    (hq : ∀ (vs : List Value) (a' : Act), a'.tmps.getD q.d undef = .func (.func q.g) #[] vs.toArray → a'.defers = [⟨.fn (.func q.g) vs.toArray, #[]⟩] → Good E (st.set (some q.d) (.clo q.g [] q.caps)) { a' with defers := [] } w → Q .normal a' w) : wpList P ops Q ops.toList a w := by
  unfold dfrReg at h
  split at h
  · rename_i o1 o2 hops
    split at h
    · rename_i g first caps d as ats d1 g1 g2 f1 f2 p1 p2
      cases hb : Nat.beq d d1 && first.isEmpty && as.isEmpty && st.fits (some d1) with
      | false => simp [hb] at h
      | true =>
        simp only [hb, cond_true, Option.some.injEq] at h; subst h
        simp only [Bool.and_eq_true] at hb
        obtain ⟨⟨⟨b1, b2⟩, b3⟩, b4⟩ := hb
        have e := Nat.eq_of_beq_eq_true b1; subst e
        have hfst : first = #[] := by simpa using b2
        have has : as = #[] := by simpa using b3
        subst hfst; subst has
        have hcaps := repL_map_ev hg caps.toList
        have hd : d < st.n := by simpa [St.fits] using b4
        rw [hops]
        simp only [wpList, wanted_plain g1, wanted_plain g2, if_true]
        left
        unfold Oper.wp
        have r1 : (execOp a.eval o1).run P w = .ok (.value (.func (.func g) #[] (caps.map a.eval))) w := by
          simp [execOp, f1, Instr.makeFunc]
        rw [r1]
        show _ ∨ _
        left
        rw [p1]
        have hev : (a.put (some d) (.func (.func g) #[] (caps.map a.eval))).eval (.tmp d) = .func (.func g) #[] (caps.map a.eval) := by
          simp only [Act.put, Act.eval]
          rw [Array.getD_eq_getD_getElem?, Array.getElem?_setIfInBounds_self_of_lt (by rw [hg.size]; exact hd)]; rfl
        have r2 : (execOp (a.put (some d) (.func (.func g) #[] (caps.map a.eval))).eval o2).run P w = .ok (.defer ⟨.fn (.func g) (caps.map a.eval), #[]⟩) w := by
          simp only [execOp, f2]
          simp [resolve, hev, Deferred.ofValue]
        rw [r2]
        show Q .normal _ w
        rw [p2]
        refine hq (caps.toList.map a.eval) _ ?_ ?_ ?_
        · have : Array.map a.eval caps = (List.map a.eval caps.toList).toArray := by apply Array.ext'; simp
          rw [← this]; exact hev
        · simp [Act.put, hg.defs]
          apply Array.ext'; simp
        · have h1 := hg.put (d := some d) (v := .clo g [] (caps.toList.map (ev st))) (x := .func (.func g) #[] (caps.map a.eval)) b4 (by
            simp only [rep]
            exact ⟨[], caps.toList.map a.eval, by congr 1; apply Array.ext'; simp, by simp only [repL], hcaps⟩)
          have e : ({ ({ (a.put (some d) (.func (.func g) #[] (caps.map a.eval))) with defers := ⟨.fn (.func g) (caps.map a.eval), #[]⟩ :: (a.put (some d) (.func (.func g) #[] (caps.map a.eval))).defers } : Act).put none undef with defers := [] } : Act) = a.put (some d) (.func (.func g) #[] (caps.map a.eval)) := by
            have := h1.defs
            simp only [Act.put] at this ⊢
            simp [this]
          rw [e]; exact h1
    · simp at h
  · simp at h

/-! ### the whole -/
def below (np : Nat) (d : SD) : Bool := d.objs.all fun p => Nat.blt p.1 np
theorem below_loc {np : Nat} {d : SD} (h : below np d = true) {E : Env} {a : Act} {w : World} (hg : Good E d.st a w) : ∀ l, (E.loc l).isSome = true → l < np := by
  intro l hl
  rw [hg.objs.dom l] at hl
  cases ho : d.st.ob l with
  | none => rw [ho] at hl; simp at hl
  | some o =>
    have hm := lookO_mem ho
    have := List.all_eq_true.1 h _ hm
    simpa using this
/-- A closure's state at its beginning, behind its own first region: what it recovered is in hand. -/
def recReg (ops : Array Oper) : Option (Nat × Nat) := match ops.toList with
  | [o1, o2] => match o1.guard, o2.guard, o1.op, o2.op, o1.dst, o2.dst with
    | none, none, .call { callee := .builtin .recover, args := as, .. }, .assign (.tmp d), some d1, some d2 => bif Nat.beq d d1 && as.isEmpty then some (d1, d2) else none
    | _, _, _, _, _, _ => none
  | _ => none
def closeSt (gn : Func) (caps : List V) (ob : Nat → Option Ob) (r : Nat × Nat) (v : Value) : St :=
  ((⟨caps.length + (gn.ntmps - caps.length), fun i => caps.getD i .dead, ob, 5000⟩ : St).set (some r.1) (.lit v)).set (some r.2) (.lit v)
/-- What the closure leaves: its end, no panic; and the whole function's end then. -/
def closeEnd (P : Program) (fn : Func) (np : Nat) (out : Out) (obs2 : List Ob) (outer : St) (ex : Ex) (st : St) (o : Orc) : Prop := match ex with
  | .norm | .ret => endFin P fn np out obs2 .ret o { outer with ob := st.ob }
  | _ => False

theorem endFin_ret {P : Program} {fn : Func} {np : Nat} {out : Out} {obs2 : List Ob} {o : Orc} {st : St} (hh : endFin P fn np out obs2 .ret o st) {E0 : Env} {M0 : Nat → Prop} {w0 : World} {E : Env} {a : Act} {w : World} (h0 : ∀ l, (E0.loc l).isSome = true → l < np)
    (hg : Good E st a w) (he : Ext E0 M0 w0 E w st.ob) (hkk : LocKept E0 E) : ∃ x, (results fn a.tmps).run P w = .ok x w ∧ ∃ out' obs' E', Is out obs2 out' obs' ∧ np ≤ obs'.length ∧ outRep E' w out' (.returned x) ∧ RealO E' (ofL obs') w ∧ Ext E0 M0 w0 E' w (ofL obs') ∧ LocKept E0 E' := by
  unfold endFin at hh
  split at hh
  · rename_i ns
    split at hh
    · rename_i hfin
      simp only [finOk, Bool.and_eq_true] at hfin
      obtain ⟨⟨⟨⟨g1, g2⟩, g3⟩, g4⟩, g5⟩ := hfin
      split at hh
      · rename_i hx; exact absurd hx (by simp)
      · exact hh.elim
      · exact hh.elim
      · rename_i v hx1 hx2
        split at hh
        · rename_i vs g7 hvs
          obtain ⟨g6, g8⟩ := hh
          obtain ⟨r1, r2, r3, r4⟩ := end_part h0 hg he hkk g1 g2 g3 g4 g5 g6
          obtain ⟨x, p1, p2⟩ := results_run hg hvs
          have p3 := subV_rep hg _ _ x g8 p2
          exact ⟨x, p1, .ret v, obs2, _, ⟨rfl, rfl⟩, Nat.le_of_ble_eq_true g3, ⟨x, rfl, (rep_ren r4 v x g7).2 p3⟩, r1, r2, r3⟩
        · exact hh.elim
      · exact hh.elim
    · exact hh.elim
  · exact hh.elim
theorem Fn.deferring {P : Program} {f : Nat} {fn : Func} (hf : P.funcs[f]? = some fn) {i0 i1 i2 : Nat} {ops0 ops1 ops2 : Array Oper}
    (hb : fn.body = some (.seq (.region i0 ops0 false) (.seq (.region i1 ops1 false) (.seq (.region i2 ops2 false) .ret)))) {obs : List Ob} {args : List V} {out : Out} {obs2 : List Ob}
    {hs0 hs2 : List HintX} {vc0 : VC} {st1 : St} (h0 : aregL P 1000 ops0 hs0 ops0.toList 0 (startSt fn obs args) = some (vc0, .ok st1)) (v0 : holds vc0)
    {q : DfrQ} (h1 : dfrReg st1 ops1 = some q) {d2 : SD} (w2 : weakP obs.length (st1.set (some q.d) (.clo q.g [] q.caps)) d2) {np2 : Nat} (b2 : below np2 d2 = true)
    {vc2 : VC} {r2 : ORes} (h2 : aregL P d2.nx ops2 hs2 ops2.toList 0 d2.st = some (vc2, r2)) (vv2 : holds vc2)
    {gn : Func} {j0 : Nat} {cops : Array Oper} {crest : Code} (hg0 : P.funcs[q.g]? = some gn) (hgb : gn.body = some (.seq (.region j0 cops false) crest)) (hgn : (gn.name == "runtime.NumGoroutine") = false) (hgr : gn.results = #[]) {r : Nat × Nat} (hr0 : recReg cops = some r)
    (hfit : (Nat.blt r.1 (q.caps.length + (gn.ntmps - q.caps.length)) && Nat.blt r.2 (q.caps.length + (gn.ntmps - q.caps.length))) = true)
    (hs2' : d2.st.s q.d = .clo q.g [] q.caps) {d3 : SD} {np3 : Nat} (b3 : below np3 d3 = true) {v : Value}
    (hr2 : match r2 with
      | .ok st3 => weakP np2 st3 d3 ∧ v = .nilIface
      | .pan v' st3 => weakP np2 st3 d3 ∧ v' = v)
    {oC : Orc}
    (hc : AWp P np3 crest (closeEnd P fn obs.length out obs2 d3.st) oC (closeSt gn q.caps d3.st.ob r v)) : Fn P f obs args (Is out obs2) := by
  intro E0 w0 vals hreal hargs
  have hE0 : ∀ l, (E0.loc l).isSome = true → l < obs.length := by
    intro l hl
    rw [hreal.dom l] at hl
    cases ho : ofL obs l with
    | none => rw [ho] at hl; simp at hl
    | some o => exact (List.getElem?_eq_some_iff.1 ho).1
  refine calls_of_wp_defers hf hb ?_
  have hlen := repL_length hargs
  have hstart : Rl E0 (mod E0 (ofL obs)) w0 (startSt fn obs args) { tmps := vals.toArray ++ Array.replicate (fn.ntmps - vals.toArray.size) undef, defers := [] } w0 := by
    refine ⟨E0, ⟨by simp [startSt, hlen], rfl, fun i => ?_, hreal⟩, Ext.refl E0 w0 _, LocKept.refl E0⟩
    show rep E0 w0 (args.getD i .dead) _
    rw [List.getD_eq_getElem?_getD]
    cases hi : args[i]? with
    | none => simp only [Option.getD_none, rep]
    | some v =>
      obtain ⟨x, h1, h2⟩ := repL_get i v hargs hi
      have hlt : i < vals.length := (List.getElem?_eq_some_iff.1 h1).1
      rw [Array.getD_eq_getD_getElem?, Array.getElem?_append_left (by simpa using hlt)]
      simp [h1]; exact h2
  refine wp_seq ?_
  refine wp_region_list (aregL_run ops0.toList 0 _ vc0 _ h0 v0 ?_ _ _ hstart)
  intro a1 wA hr1
  obtain ⟨EA, hgA, heA, hkA⟩ := hr1
  show Code.wp P _ _ a1 wA
  refine wp_seq ?_
  refine wp_region_list (dfrReg_run h1 hg0 hgb hgn hgA ?_)
  intro vs a1' hvs hdf hgA'
  show Code.wp P _ _ a1' wA
  obtain ⟨E1, hg1, he1, hk1⟩ := Rl.weak (E0 := E0) (M0 := mod E0 (ofL obs)) (w0 := w0) ⟨EA, hgA', by exact heA, hkA⟩ hE0 w2
  have hE1 := below_loc b2 hg1
  have hvs1 : repL E1 wA q.caps vs := by
    have := hg1.slots q.d
    rw [hs2'] at this
    have hv' : ({ a1' with defers := [] } : Act).tmps.getD q.d undef = .func (.func q.g) #[] vs.toArray := hvs
    rw [hv'] at this
    simp only [rep] at this
    obtain ⟨fs, cs, k1, k2, k3⟩ := this
    simp only [Value.func.injEq] at k1
    have : vs = cs := by have := k1.2.2; simpa using this
    rw [this]; exact k3
  refine wp_seq ?_
  -- the second part, from here on
  have hstart2 : Rl E1 (mod E1 d2.st.ob) wA d2.st { a1' with defers := [] } wA := ⟨E1, hg1, Ext.refl E1 wA _, LocKept.refl E1⟩
  have close : ∀ (a' : Act) (w' : World) (u : FrameMode), a'.defers = [⟨.fn (.func q.g) vs.toArray, #[]⟩] → Rl E1 (mod E1 d2.st.ob) wA d3.st { a' with defers := [] } w' →
      (u = .returning ∧ v = .nilIface ∨ u = .panicking [{ v, recovered := false }]) →
      Leaves P fn a'.tmps (fun e w'' => ∃ out' obs' E', Is out obs2 out' obs' ∧ obs.length ≤ obs'.length ∧ outRep E' w'' out' e ∧ RealO E' (ofL obs') w'' ∧ Ext E0 (mod E0 (ofL obs)) w0 E' w'' (ofL obs') ∧ LocKept E0 E') a'.defers u w' := by
    intro a' w' u hd' hr' hu
    obtain ⟨E2, hg2, he2, hk2⟩ := hr'
    have hE2 := below_loc b3 hg2
    rw [hd']
    have hsome : gn.body.isSome = true := by rw [hgb]; rfl
    have hinv : (invoke (.fn (.func q.g) vs.toArray) #[]).run P w' = .ok (.enter q.g vs.toArray) w' := by
      have hcf := callFunc_run (P := P) (args := vs.toArray) (w := w') hg0 hsome hgn
      simp [invoke, hcf]
    have hvs2 := repL_mono he2.imm hk2 _ _ hvs1
    have hlen2 := repL_length hvs2
    refine leaves_cons (by rcases hu with ⟨rfl, _⟩ | rfl <;> simp) hinv ?_
    suffices H : ∀ R : Ending → FrameMode → World → Prop, (∀ x u' w'', Leaves P fn a'.tmps (fun e w'' => ∃ out' obs' E', Is out obs2 out' obs' ∧ obs.length ≤ obs'.length ∧ outRep E' w'' out' e ∧ RealO E' (ofL obs') w'' ∧ Ext E0 (mod E0 (ofL obs)) w0 E' w'' (ofL obs') ∧ LocKept E0 E') [] (settle u') w'' → R (.returned x) u' w'') → CallsD P q.g vs.toArray u w' R from H _ (fun x u' w'' h => h)
    intro R hR
    refine callsD_of_wpS hg0 hgb ?_
    intro c₀ cs hm
    refine wpS_seq (wpS_region ?_)
    unfold recReg at hr0
    split at hr0
    · rename_i o1 o2 hops
      split at hr0
      · rename_i as ats d e1 e2 e1' g1 f1 f2 p1 p2
        cases hb4 : Nat.beq d e1 && as.isEmpty with
        | false => simp [hb4] at hr0
        | true =>
          simp only [hb4, cond_true, Option.some.injEq] at hr0; subst hr0
          simp only [Bool.and_eq_true] at hb4 hfit
          have e := Nat.eq_of_beq_eq_true hb4.1; subst e
          have has : as = #[] := by simpa using hb4.2
          subst has
          have hsize : cops.size = 2 := by rw [← Array.length_toList, hops]; rfl
          have hi0 : cops[0]? = some o1 := by rw [← Array.getElem?_toList, hops]; rfl
          have hi1 : cops[1]? = some o2 := by rw [← Array.getElem?_toList, hops]; rfl
          rw [hsize, show List.range 2 = [0, 1] from rfl]
          let aC : Act := { tmps := vs.toArray ++ Array.replicate (gn.ntmps - vs.toArray.size) undef, defers := [] }
          have hgC : Good E2 ⟨q.caps.length + (gn.ntmps - q.caps.length), fun i => q.caps.getD i .dead, d3.st.ob, 5000⟩ aC w' := by
            refine ⟨by simp [aC, hlen2], rfl, fun i => ?_, hg2.objs⟩
            show rep E2 w' (q.caps.getD i .dead) _
            rw [List.getD_eq_getElem?_getD]
            cases hi : q.caps[i]? with
            | none => simp only [Option.getD_none, rep]
            | some v =>
              obtain ⟨x, h1, h2⟩ := repL_get i v hvs2 hi
              have hlt : i < vs.length := (List.getElem?_eq_some_iff.1 h1).1
              rw [Array.getD_eq_getD_getElem?, Array.getElem?_append_left (by simpa using hlt)]
              simp [h1]; exact h2
          show wpOpsS P cops _ [0, 1] aC (c₀ :: cs) w'
          clear_value aC
          have hgC2 : Good E2 (closeSt gn q.caps d3.st.ob (d, e2) v) ((aC.put (some d) v).put (some e2) v) w' :=
            (hgC.put (d := some d) (v := .lit v) (x := v) hfit.1 (by simp only [rep])).put (d := some e2) (v := .lit v) (x := v) hfit.2 (by simp only [rep])
          have hd4 : d < (q.caps.length + (gn.ntmps - q.caps.length)) := by simpa using hfit.1
          have hev : (aC.put (some d) v).eval (.tmp d) = v := by
            simp only [Act.put, Act.eval]
            rw [Array.getD_eq_getD_getElem?, Array.getElem?_setIfInBounds_self_of_lt (by rw [hgC.size]; exact hd4)]; rfl
          have r1 : (execOp aC.eval o1).run P w' = .ok .recover w' := by
            simp only [execOp, f1]
            simp [resolve, invoke, builtin]
          have r2 : (execOp (aC.put (some d) v).eval o2).run P w' = .ok (.value v) w' := by
            simp only [execOp, f2, hev]; simp
          have key : ∀ u' : FrameMode, settle u' = .returning → crest.wpS P (bodyPostS P gn c₀ cs R) ((aC.put (some d) v).put (some e2) v) ({ c₀ with mode := u' } :: cs) w' := by
            intro u' hu'
            refine wpS_of_wp (AWp_run hE2 crest _ _ oC _ _ w' hc ⟨E2, hgC2, Ext.refl E2 w' _, LocKept.refl E2⟩ ?_)
            intro ex st' o' a'' w'' hk hr''
            obtain ⟨E3, hg3, he3, hk3⟩ := hr''
            have hgo : Good E3 { d3.st with ob := st'.ob } { a' with defers := [] } w'' :=
              ⟨hg2.size, rfl, fun i => rep_mono he3.imm hk3 _ _ (hg2.slots i), hg3.objs⟩
            have fin : endFin P fn obs.length out obs2 .ret o' { d3.st with ob := st'.ob } → a''.defers = [] ∧ ∃ u'', ({ c₀ with mode := u' } :: cs : List Frame) = { c₀ with mode := u'' } :: cs ∧ ∃ x, (results gn a''.tmps).run P w'' = .ok x w'' ∧ R (.returned x) u'' w'' := by
              intro hh
              obtain ⟨x, hx, _⟩ := results_run (P := P) hg3 (fn := gn) (vs := []) (by rw [hgr]; rfl)
              refine ⟨hg3.defs, u', rfl, x, hx, hR x u' w'' ?_⟩
              rw [hu']
              exact endFin_ret (a := { a' with defers := [] }) hh hE0 hgo ((he1.trans he2).trans he3) ((hk1.trans hk2).trans hk3)
            cases ex with
            | norm => exact fin hk
            | ret => exact fin hk
            | exit id => exact hk.elim
            | pan v => exact hk.elim
          simp only [wpOpsS, hi0, hi1, wanted_plain e1', wanted_plain g1, if_true, r1]
          rcases hu with ⟨rfl, rfl⟩ | rfl
          · have hrec : recoverD (c₀ :: cs) = none := by simp [recoverD, hm]
            rw [hrec]
            simp only [p1, r2, Oper.upon, p2]
            have := key .returning rfl
            have e0 : ({ c₀ with mode := .returning } : Frame) = c₀ := by rw [← hm]
            rw [e0] at this
            exact this
          · have hrec : recoverD (c₀ :: cs) = some (v, { c₀ with mode := .panicking [{ v, recovered := true }] } :: cs) := by simp [recoverD, hm]
            rw [hrec]
            simp only [p1, r2, Oper.upon, p2]
            exact key (.panicking [{ v, recovered := true }]) rfl
      · simp at hr0
    · simp at hr0
  refine wp_region_list (aregL_runD ops2.toList 0 _ vc2 r2 h2 vv2 ?_ a1' wA hdf hstart2)
  cases r2 with
  | ok st3 =>
    intro a' w' hd' hr'
    obtain ⟨k1, k2⟩ := hr2
    show Code.wp P _ _ a' w'
    refine wp_ret ?_
    exact close a' w' .returning hd' (hr'.weak hE1 k1) (.inl ⟨rfl, k2⟩)
  | pan v' st3 =>
    intro a' w' hd' hr'
    obtain ⟨k1, rfl⟩ := hr2
    exact close a' w' _ hd' (hr'.weak hE1 k1) (.inr rfl)

/-- What is owed for such a function. -/
def AWpD (P : Program) (fn : Func) (obs : List Ob) (args : List V) (out : Out) (obs2 : List Ob) (hs0 : List HintX) (d2 : SD) (np2 : Nat) (hs2 : List HintX) (d3 : SD) (np3 : Nat) (oC : Orc) : Prop := match fn.body with
  | some (.seq (.region _ ops0 false) (.seq (.region _ ops1 false) (.seq (.region _ ops2 false) .ret))) => match aregL P 1000 ops0 hs0 ops0.toList 0 (startSt fn obs args) with
    | some (vc0, .ok st1) => match dfrReg st1 ops1 with
      | some q => match P.funcs[q.g]? with
        | some gn => match gn.body with
          | some (.seq (.region _ cops false) crest) => match recReg cops with
            | some r => match below np2 d2 && below np3 d3 && !(gn.name == "runtime.NumGoroutine") && gn.results.isEmpty && (Nat.blt r.1 (q.caps.length + (gn.ntmps - q.caps.length)) && Nat.blt r.2 (q.caps.length + (gn.ntmps - q.caps.length))) with
              | true => match aregL P d2.nx ops2 hs2 ops2.toList 0 d2.st with
                | some (vc2, .ok st3) => owe vc0 (weakP obs.length (st1.set (some q.d) (.clo q.g [] q.caps)) d2 ∧ d2.st.s q.d = .clo q.g [] q.caps ∧ owe vc2 (weakP np2 st3 d3 ∧ AWp P np3 crest (closeEnd P fn obs.length out obs2 d3.st) oC (closeSt gn q.caps d3.st.ob r .nilIface)))
                | some (vc2, .pan v st3) => owe vc0 (weakP obs.length (st1.set (some q.d) (.clo q.g [] q.caps)) d2 ∧ d2.st.s q.d = .clo q.g [] q.caps ∧ owe vc2 (weakP np2 st3 d3 ∧ AWp P np3 crest (closeEnd P fn obs.length out obs2 d3.st) oC (closeSt gn q.caps d3.st.ob r v)))
                | none => False
              | false => False
            | none => False
          | _ => False
        | none => False
      | none => False
    | _ => False
  | _ => False
theorem Fn.ofD {P : Program} {f : Nat} {fn : Func} (hf : P.funcs[f]? = some fn) {obs : List Ob} {args : List V} {out : Out} {obs2 : List Ob} (hs0 : List HintX) (d2 : SD) (np2 : Nat) (hs2 : List HintX) (d3 : SD) (np3 : Nat) (oC : Orc) {T : Prop}
    (e : AWpD P fn obs args out obs2 hs0 d2 np2 hs2 d3 np3 oC = T) (h : T) : Fn P f obs args (Is out obs2) := by
  rw [← e] at h
  unfold AWpD at h
  split at h
  · rename_i i0 ops0 i1 ops1 i2 ops2 hb
    split at h
    · rename_i vc0 st1 h0
      split at h
      · rename_i q h1
        split at h
        · rename_i gn hg0
          split at h
          · rename_i j0 cops crest hgb
            split at h
            · rename_i r hr0
              split at h
              · rename_i hbb
                simp only [Bool.and_eq_true, Bool.not_eq_true'] at hbb
                obtain ⟨⟨⟨⟨b1, b2⟩, b3⟩, b4⟩, b5⟩ := hbb
                have hgr : gn.results = #[] := by simpa using b4
                have hfit : (Nat.blt r.1 (q.caps.length + (gn.ntmps - q.caps.length)) && Nat.blt r.2 (q.caps.length + (gn.ntmps - q.caps.length))) = true := by
                  rw [Bool.and_eq_true]; exact b5
                split at h
                · rename_i vc2 st3 h2
                  obtain ⟨v0, w2, s2, h⟩ := owe_holds h
                  obtain ⟨v2, w3, hc⟩ := owe_holds h
                  exact Fn.deferring hf hb h0 v0 h1 w2 b1 h2 v2 hg0 hgb b3 hgr hr0 hfit s2 b2 (v := .nilIface) ⟨w3, rfl⟩ hc
                · rename_i vc2 v st3 h2
                  obtain ⟨v0, w2, s2, h⟩ := owe_holds h
                  obtain ⟨v2, w3, hc⟩ := owe_holds h
                  exact Fn.deferring hf hb h0 v0 h1 w2 b1 h2 v2 hg0 hgb b3 hgr hr0 hfit s2 b2 (v := v) ⟨w3, rfl⟩ hc
                · exact h.elim
              · exact h.elim
            · exact h.elim
          · exact h.elim
        · exact h.elim
      · exact h.elim
    · exact h.elim
  · exact h.elim
end Go.Proofs.Fw
