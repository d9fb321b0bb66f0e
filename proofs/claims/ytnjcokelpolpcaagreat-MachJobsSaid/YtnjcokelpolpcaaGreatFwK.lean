/- A function's text, told step by step: what is owed, and that the machine does so. -/
import Derived.Test.YtnjcokelpolpcaaGreatFwS
import Derived.Deep.LoopGhost
set_option linter.unusedVariables false
set_option linter.unusedSimpArgs false
set_option linter.unusedSectionVars false
set_option linter.unnecessarySimpa false
namespace Go.Proofs.Fw
open Go Go.RowKit

/-! ### one operation -/
inductive Hnt where
  | none
  | row (r : List V)
  | val (v : V)
  | call (c : CallH)

structure HintX where
  i : Nat
  sh : List Nat
  h : Hnt

mutual
/-- A value of no memory. -/
def conc : V → Option Value
  | .lit v => some v
  | .agg cs => match concL cs with
    | some vs => some (.agg vs.toArray)
    | none => none
  | _ => none
def concL : List V → Option (List Value)
  | [] => some []
  | c :: cs => match conc c, concL cs with
    | some v, some vs => some (v :: vs)
    | _, _ => none
end
mutual
theorem conc_rep {E : Env} {w : World} : ∀ (v : V) (y x : Value), conc v = some y → rep E w v x → x = y
  | .lit u, y, x, h, hx => by simp only [conc, Option.some.injEq] at h; subst h; simpa only [rep] using hx
  | .agg cs, y, x, h, hx => by
    simp only [conc] at h
    split at h
    · rename_i vs hc
      simp only [Option.some.injEq] at h; subst h
      simp only [rep] at hx
      obtain ⟨ys, rfl, h2⟩ := hx
      rw [concL_rep cs vs ys hc h2]
    · simp at h
  | .ptr .., _, _, h, _ | .rp .., _, _, h, _ | .ip .., _, _, h, _ | .sref .., _, _, h, _ | .mref .., _, _, h, _ | .clo .., _, _, h, _ | .tup .., _, _, h, _ | .sl .., _, _, h, _ | .own .., _, _, h, _ | .dead, _, _, h, _ => by simp [conc] at h
theorem concL_rep {E : Env} {w : World} : ∀ (cs : List V) (vs xs : List Value), concL cs = some vs → repL E w cs xs → xs = vs
  | [], vs, xs, h, hx => by simp only [concL, Option.some.injEq] at h; subst h; simpa only [repL] using hx
  | c :: cs, vs, xs, h, hx => by
    simp only [concL] at h
    split at h
    · rename_i v vs' h1 h2
      simp only [Option.some.injEq] at h; subst h
      simp only [repL] at hx
      obtain ⟨y, ys, rfl, k1, k2⟩ := hx
      rw [conc_rep c v y h1 k1, concL_rep cs vs' ys h2 k2]
    · simp at h
end

/-- A panic of the text's own; an interface value made for it. -/
def adPanic (P : Program) (st : St) (o : Oper) : Option (VC × ORes) := match o.op with
  | .panic x => match ev st x with
    | .lit (.iface t v) => some (none, .pan (.iface t v) st)
    | _ => none
  | .makeInterface t x => match P.underlying t, conc (ev st x) with
    | some (.struct _), some y => bif st.fits o.dst then some (none, .ok (st.set o.dst (.lit (.iface t y)))) else none
    | _, _ => none
  | _ => none
theorem adPanic_step {P : Program} {st : St} {o : Oper} {vc : VC} {r : ORes} (h : adPanic P st o = some (vc, r)) : StepX P o st r := by
  unfold adPanic at h
  split at h
  · rename_i x hop
    split at h
    · rename_i t v he
      simp only [Option.some.injEq, Prod.mk.injEq] at h; obtain ⟨_, rfl⟩ := h
      rintro K Q E0 M0 w0 a w ⟨E, hg, hx, hk⟩ hq
      have hxv := ev_rep hg x
      rw [he] at hxv; simp only [rep] at hxv
      have hr : (execOp a.eval o).run P w = .halt (.panic (.iface t v)) w := by simp [execOp, hop, Instr.panic, hxv]
      unfold Oper.wp; rw [hr]
      exact hq a w ⟨E, hg, hx, hk⟩
    · simp at h
  · rename_i t x hop
    split at h
    · rename_i fs y hu hc
      cases hf : st.fits o.dst with
      | false => simp [hf] at h
      | true =>
        simp only [hf, cond_true, Option.some.injEq, Prod.mk.injEq] at h; obtain ⟨_, rfl⟩ := h
        refine Step.pure hf ?_
        intro E a w hg
        refine ⟨.iface t y, ?_, rep_lit⟩
        rw [← conc_rep _ _ _ hc (ev_rep hg x)]
        simp [execOp, hop, Instr.makeInterface, run_underlying hu]
    · simp at h
  · simp at h

def orE {α : Type} (x y : Option α) : Option α := match x with
  | some a => some a
  | none => y
def okR (x : Option (VC × St)) : Option (VC × ORes) := match x with
  | some (p, s) => some (p, .ok s)
  | none => none

/-- All operations that make, change or end. -/
def aeff (P : Program) (st : St) (l : Nat) (o : Oper) : Option (VC × ORes) :=
  orE (okR (adStore P st o)) (orE (okR (adBox P st l o)) (orE (okR (adApp P st l o)) (orE (okR (adSlice P st l o)) (adPanic P st o))))

theorem orE_some {α : Type} {x y : Option α} {a : α} (h : orE x y = some a) : x = some a ∨ y = some a := by
  unfold orE at h
  cases x with
  | none => exact .inr h
  | some b => exact .inl h
theorem okR_some {x : Option (VC × St)} {p : VC} {r : ORes} (h : okR x = some (p, r)) : ∃ s, x = some (p, s) ∧ r = .ok s := by
  unfold okR at h
  split at h
  · rename_i p' s
    simp only [Option.some.injEq, Prod.mk.injEq] at h; obtain ⟨rfl, rfl⟩ := h
    exact ⟨s, rfl, rfl⟩
  · simp at h

theorem aeff_step {P : Program} {st : St} {l : Nat} {o : Oper} {vc : VC} {r : ORes} (h : aeff P st l o = some (vc, r)) (hv : holds vc) : StepX P o st r := by
  unfold aeff at h
  rcases orE_some h with h | h
  · obtain ⟨s, h1, h2⟩ := okR_some h; subst h2; exact adStore_step h1 hv
  rcases orE_some h with h | h
  · obtain ⟨s, h1, h2⟩ := okR_some h; subst h2; exact adBox_step h1 hv
  rcases orE_some h with h | h
  · obtain ⟨s, h1, h2⟩ := okR_some h; subst h2; exact adApp_step h1 hv
  rcases orE_some h with h | h
  · obtain ⟨s, h1, h2⟩ := okR_some h; subst h2; exact adSlice_step h1 hv
  · exact adPanic_step h

def Hnt.toHint : Hnt → Hint
  | .row r => .row r
  | _ => .none

/-- A test's outcome, known besides. -/
def known (ob : Nat → Option Ob) (h : Hnt) (vc : VC) (v : V) : Option (VC × V) := match h with
  | .val v' => some (andC vc (some (subV ob v v')), v')
  | _ => some (vc, v)

def Hnt.v : Hnt → Option V
  | .val v => Option.some v
  | .row r => Option.some (V.agg r)
  | _ => Option.none
def aop1 (P : Program) (st : St) (l : Nat) (h : Hnt) (o : Oper) : Option (VC × ORes) := match h with
  | .call c => adCall P st c o
  | h => match apure P st h.toHint o.op with
    | some (vc, v) => match known st.ob h vc v with
      | some (vc', v') => bif st.fits o.dst then some (vc', .ok (st.set o.dst v')) else none
      | none => none
    | none => orE (aeff P st l o) (okR (arare2 P st l h.v o))

theorem aop1_step {P : Program} {st : St} {l : Nat} {h : Hnt} {o : Oper} {vc : VC} {r : ORes} (he : aop1 P st l h o = some (vc, r)) (hv : holds vc) : StepX P o st r := by
  unfold aop1 at he
  split at he
  · exact adCall_step he hv
  · rename_i h _
    split at he
    · rename_i vc0 v hp
      split at he
      · rename_i vc' v' hkn
        cases hf : st.fits o.dst with
        | false => simp [hf] at he
        | true =>
          simp only [hf, cond_true, Option.some.injEq, Prod.mk.injEq] at he
          obtain ⟨rfl, rfl⟩ := he
          refine Step.pure hf ?_
          intro E a w hg
          unfold known at hkn
          split at hkn
          · simp only [Option.some.injEq, Prod.mk.injEq] at hkn
            obtain ⟨rfl, rfl⟩ := hkn
            obtain ⟨hv1, hv2⟩ := andC_holds hv
            obtain ⟨x, g1, g2⟩ := apure_run hp hv1 hg
            exact ⟨x, g1, subV_rep hg _ _ x hv2 g2⟩
          · simp only [Option.some.injEq, Prod.mk.injEq] at hkn
            obtain ⟨rfl, rfl⟩ := hkn
            exact apure_run hp hv hg
      · simp at he
    · rcases orE_some he with he | he
      · exact aeff_step he hv
      · obtain ⟨s, h1, h2⟩ := okR_some he; subst h2; exact arare2_step h1 hv

def aop (P : Program) (st : St) (l : Nat) (hx : HintX) (o : Oper) : Option (VC × ORes) := aop1 P (shares st hx.sh) l hx.h o

theorem aop_step {P : Program} {st : St} {l : Nat} {h : HintX} {o : Oper} {vc : VC} {r : ORes} (he : aop P st l h o = some (vc, r)) (hv : holds vc) : StepX P o st r := by
  have := aop1_step he hv
  cases r with
  | ok s => exact fun Q E0 M0 w0 a w hr => this Q E0 M0 w0 a w hr.sharesL
  | pan v s => exact fun K Q E0 M0 w0 a w hr hq => this K Q E0 M0 w0 a w hr.sharesL hq

/-! ### a region, in the text's order -/
def hintAt (i : Nat) : List HintX → HintX
  | [] => ⟨0, [], .none⟩
  | h :: hs => bif Nat.beq h.i i then h else hintAt i hs

inductive GRes where
  | run | skip | bad
def guardOf (st : St) (all : Array Oper) (o : Oper) : GRes := match o.guard with
  | none => .run
  | some (j, want) => match all.toList[j]? with
    | some oj => match oj.dst with
      | some d => match st.s d with
        | .lit (.bool true) => bif want then .run else .skip
        | .lit (.bool false) => bif want then .skip else .run
        | .lit (.tuple _) => .skip
        | _ => .bad
      | none => .bad
    | none => .bad

theorem guard_run {E : Env} {st : St} {a : Act} {w : World} (hg : Good E st a w) {all : Array Oper} {o : Oper} (h : guardOf st all o = .run) : Region.wanted o (yielded all a.tmps) = true := by
  unfold guardOf at h
  split at h
  · rename_i hn; simp [Region.wanted, hn]
  · rename_i j want hgd
    split at h
    · rename_i oj hj
      split at h
      · rename_i d hd
        have hx := hg.slots d
        have hj' : all[j]? = some oj := by simpa using hj
        split at h
        · rename_i hs; rw [hs] at hx; simp only [rep] at hx
          cases want
          · simp at h
          · simp only [Region.wanted, hgd, yielded, hj', Option.bind_some, hd]
            rw [Array.getD_eq_getD_getElem?] at hx
            cases ht : a.tmps[d]? with
            | none => rw [ht] at hx; simp [undef] at hx
            | some x => rw [ht] at hx; simp at hx; subst hx; simp
        · rename_i hs; rw [hs] at hx; simp only [rep] at hx
          cases want
          · simp only [Region.wanted, hgd, yielded, hj', Option.bind_some, hd]
            rw [Array.getD_eq_getD_getElem?] at hx
            cases ht : a.tmps[d]? with
            | none => rw [ht] at hx; simp [undef] at hx
            | some x => rw [ht] at hx; simp at hx; subst hx; simp
          · simp at h
        · simp at h
        · simp at h
      · simp at h
    · simp at h

theorem guard_skip {E : Env} {st : St} {a : Act} {w : World} (hg : Good E st a w) {all : Array Oper} {o : Oper} (h : guardOf st all o = .skip) : Region.wanted o (yielded all a.tmps) = false := by
  unfold guardOf at h
  split at h
  · simp at h
  · rename_i j want hgd
    split at h
    · rename_i oj hj
      split at h
      · rename_i d hd
        have hx := hg.slots d
        have hj' : all[j]? = some oj := by simpa using hj
        split at h
        · rename_i hs; rw [hs] at hx; simp only [rep] at hx
          cases want
          · simp only [Region.wanted, hgd, yielded, hj', Option.bind_some, hd]
            rw [Array.getD_eq_getD_getElem?] at hx
            cases ht : a.tmps[d]? with
            | none => rw [ht] at hx; simp [undef] at hx
            | some x => rw [ht] at hx; simp at hx; subst hx; simp
          · simp at h
        · rename_i hs; rw [hs] at hx; simp only [rep] at hx
          cases want
          · simp at h
          · simp only [Region.wanted, hgd, yielded, hj', Option.bind_some, hd]
            rw [Array.getD_eq_getD_getElem?] at hx
            cases ht : a.tmps[d]? with
            | none => rw [ht] at hx; simp [undef] at hx
            | some x => rw [ht] at hx; simp at hx; subst hx; simp
        · rename_i hs; rw [hs] at hx; simp only [rep] at hx
          simp only [Region.wanted, hgd, yielded, hj', Option.bind_some, hd]
          rw [Array.getD_eq_getD_getElem?] at hx
          cases ht : a.tmps[d]? with
          | none => simp
          | some x => rw [ht] at hx; simp at hx; subst hx; simp
        · simp at h
      · simp at h
    · simp at h

def aregL (P : Program) (nx : Nat) (all : Array Oper) (hs : List HintX) : List Oper → Nat → St → Option (VC × ORes)
  | [], _, st => some (none, .ok st)
  | o :: rest, i, st => match guardOf st all o with
    | .run => match aop P st (nx + i) (hintAt i hs) o with
      | some (vc, .ok st') => match aregL P nx all hs rest (i + 1) st' with
        | some (vc', r) => some (andC vc vc', r)
        | none => none
      | some (vc, .pan v st') => some (vc, .pan v st')
      | none => none
    | .skip => bif st.fits o.dst then aregL P nx all hs rest (i + 1) (st.set o.dst (.lit undef)) else none
    | .bad => none

/-- What is to hold behind a step. -/
def After (E0 : Env) (M0 : Nat → Prop) (w0 : World) (Q : Exit → Act → World → Prop) : ORes → Prop
  | .ok st' => ∀ a' w', Rl E0 M0 w0 st' a' w' → Q .normal a' w'
  | .pan v st' => ∀ a' w', Rl E0 M0 w0 st' a' w' → Q (.panic [{ v, recovered := false }]) a' w'

theorem aregL_run {P : Program} {nx : Nat} {all : Array Oper} {hs : List HintX} {Q : Exit → Act → World → Prop} {E0 : Env} {M0 : Nat → Prop} {w0 : World} : ∀ (ops : List Oper) (i : Nat) (st : St) (vc : VC) (r : ORes),
    aregL P nx all hs ops i st = some (vc, r) → holds vc → After E0 M0 w0 Q r → ∀ a w, Rl E0 M0 w0 st a w → wpList P all Q ops a w
  | [], i, st, vc, r, h, hv, hq, a, w, hr => by
    simp only [aregL, Option.some.injEq, Prod.mk.injEq] at h
    obtain ⟨_, rfl⟩ := h
    exact hq a w hr
  | o :: rest, i, st, vc, r, h, hv, hq, a, w, hr => by
    simp only [aregL] at h
    obtain ⟨E, hg, _⟩ := id hr
    split at h
    · rename_i hgd
      split at h
      · rename_i vc1 st' hop
        split at h
        · rename_i vc2 r' hrest
          simp only [Option.some.injEq, Prod.mk.injEq] at h
          obtain ⟨rfl, rfl⟩ := h
          simp only [wpList, guard_run hg hgd, if_true]
          left
          have := aop_step hop (andC_holds hv).1 Q E0 M0 w0 a w hr
          exact Oper.wp_mono (fun a' w' h' => aregL_run rest (i + 1) st' vc2 r' hrest (andC_holds hv).2 hq a' w' h'.2) this
        · simp at h
      · rename_i vc1 v st' hop
        simp only [Option.some.injEq, Prod.mk.injEq] at h
        obtain ⟨rfl, rfl⟩ := h
        simp only [wpList, guard_run hg hgd, if_true]
        left
        exact aop_step hop hv _ Q E0 M0 w0 a w hr hq
      · simp at h
    · rename_i hgd
      cases hf : st.fits o.dst with
      | false => simp [hf] at h
      | true =>
        simp only [hf, cond_true] at h
        simp only [wpList, guard_skip hg hgd, Bool.false_eq_true, if_false]
        refine aregL_run rest (i + 1) _ vc r h hv hq _ _ ?_
        obtain ⟨E, hg, he, hk⟩ := hr
        exact Rl.put hg he hk hf (by simp only [rep])
    · simp at h

end Go.Proofs.Fw
