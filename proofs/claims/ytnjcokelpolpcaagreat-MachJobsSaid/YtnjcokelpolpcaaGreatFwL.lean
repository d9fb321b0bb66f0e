/- A whole function, told. -/
import Derived.Test.YtnjcokelpolpcaaGreatFwK
set_option linter.unusedVariables false
set_option linter.unusedSimpArgs false
set_option linter.unusedSectionVars false
set_option linter.unnecessarySimpa false
namespace Go.Proofs.Fw
open Go Go.RowKit

/-- A state, written out. -/
structure SD where
  n : Nat
  slots : List (Nat × V)
  objs : List (Nat × Ob)
  nx : Nat

def lookO (l : Nat) : List (Nat × Ob) → Option Ob
  | [] => none
  | (k, o) :: r => bif Nat.beq l k then some o else lookO l r
def lookV (i : Nat) : List (Nat × V) → V
  | [] => .dead
  | (k, v) :: r => bif Nat.beq i k then v else lookV i r
def SD.st (d : SD) : St := ⟨d.n, fun i => lookV i d.slots, fun l => lookO l d.objs, d.nx⟩
def SD.has (d : SD) (l : Nat) : Bool := (lookO l d.objs).isSome

def subOb (ob : Nat → Option Ob) (a b : Ob) : Prop := match a, b with
  | .box T cs, .box U ds => T = U ∧ subL ob cs ds
  | .row e sz rows wr, .row e' sz' rows' wr' => e = e' ∧ sz = sz' ∧ rows = rows' ∧ wr = wr'
  | .map es, .map es' => es = es'
  | .gone, .gone => True
  | _, _ => False
def subSlots (ob : Nat → Option Ob) (s : Nat → V) : List (Nat × V) → Prop
  | [] => True
  | (i, d) :: ds => subV ob (s i) d ∧ subSlots ob s ds
def subObs (ob : Nat → Option Ob) : List (Nat × Ob) → Prop
  | [] => True
  | (l, o) :: r => (match ob l with
    | some o' => subOb ob o' o
    | none => False) ∧ subObs ob r

def ltAll (p : Nat → Bool) : Nat → Bool
  | 0 => true
  | n + 1 => p n && ltAll p n
theorem ltAll_get {p : Nat → Bool} : ∀ {n : Nat}, ltAll p n = true → ∀ i, i < n → p i = true
  | 0, _, i, h => by omega
  | n + 1, h, i, hi => by
    simp only [ltAll, Bool.and_eq_true] at h
    by_cases e : i = n
    · subst e; exact h.1
    · exact ltAll_get h.2 i (by omega)

def SD.ok (d : SD) (np : Nat) (st : St) : Bool :=
  Nat.beq d.n st.n && d.slots.all (fun p => p.2.bd d.has) && d.objs.all (fun p => p.2.bd d.has) && natNodup (d.objs.map (·.1)) && ltAll (fun l => !(st.ob l).isSome || d.has l) np

/-- 'd' says less than 'st'. -/
def weakP (np : Nat) (st : St) (d : SD) : Prop := match d.ok np st with
  | true => subSlots st.ob st.s d.slots ∧ subObs st.ob d.objs
  | false => False
theorem weakP_iff {np : Nat} {st : St} {d : SD} (h : weakP np st d) : d.ok np st = true ∧ subSlots st.ob st.s d.slots ∧ subObs st.ob d.objs := by
  unfold weakP at h
  cases hb : d.ok np st with
  | true => rw [hb] at h; exact ⟨rfl, h⟩
  | false => rw [hb] at h; exact h.elim

theorem subSlots_get {ob : Nat → Option Ob} {s : Nat → V} : ∀ {ds : List (Nat × V)}, subSlots ob s ds → ∀ i d, (i, d) ∈ ds → subV ob (s i) d
  | [], _, i, d, h => by simp at h
  | (k, x) :: ds, h, i, d, hd => by
    simp only [subSlots] at h
    rcases List.mem_cons.1 hd with hd | hd
    · simp only [Prod.mk.injEq] at hd; obtain ⟨rfl, rfl⟩ := hd; exact h.1
    · exact subSlots_get h.2 i d hd
theorem lookV_mem : ∀ {r : List (Nat × V)} {i : Nat}, lookV i r = .dead ∨ (i, lookV i r) ∈ r
  | [], i => .inl rfl
  | (k, x) :: r, i => by
    simp only [lookV]
    cases hb : Nat.beq i k with
    | true => right; rw [Nat.eq_of_beq_eq_true hb]; simp
    | false =>
      simp only [cond_false]
      rcases lookV_mem (r := r) (i := i) with h | h
      · exact .inl h
      · exact .inr (List.mem_cons_of_mem _ h)
theorem lookO_mem : ∀ {r : List (Nat × Ob)} {l : Nat} {o : Ob}, lookO l r = some o → (l, o) ∈ r
  | [], l, o, h => by simp [lookO] at h
  | (k, x) :: r, l, o, h => by
    simp only [lookO] at h
    cases hb : Nat.beq l k with
    | true =>
      simp only [hb, cond_true, Option.some.injEq] at h; subst h
      rw [Nat.eq_of_beq_eq_true hb]; simp
    | false => simp only [hb, cond_false] at h; exact List.mem_cons_of_mem _ (lookO_mem h)
theorem subObs_get {ob : Nat → Option Ob} : ∀ {r : List (Nat × Ob)}, subObs ob r → ∀ l o, (l, o) ∈ r → ∃ o', ob l = some o' ∧ subOb ob o' o
  | [], _, l, o, h => by simp at h
  | (k, x) :: r, h, l, o, hm => by
    simp only [subObs] at h
    rcases List.mem_cons.1 hm with hm | hm
    · simp only [Prod.mk.injEq] at hm; obtain ⟨rfl, rfl⟩ := hm
      have h1 := h.1
      split at h1
      · rename_i o' ho; exact ⟨o', ho, h1⟩
      · exact h1.elim
    · exact subObs_get h.2 l o hm

mutual
theorem ren_id : ∀ v : V, v.ren (fun n => n) = v
  | .lit v => by simp only [V.ren]
  | .ptr l o => by simp only [V.ren]
  | .rp l n sz i r => by simp only [V.ren]
  | .ip cs => by simp only [V.ren]
  | .sref l n => by simp only [V.ren]
  | .mref l => by simp only [V.ren]
  | .clo g first caps => by simp only [V.ren, renL_id first, renL_id caps]
  | .agg cs => by simp only [V.ren, renL_id cs]
  | .tup vs => by simp only [V.ren, renL_id vs]
  | .sl sz rows => by simp only [V.ren]
  | .own e sz rows => by simp only [V.ren]
  | .dead => by simp only [V.ren]
theorem renL_id : ∀ vs : List V, renL (fun n => n) vs = vs
  | [] => by simp only [renL]
  | v :: vs => by simp only [renL, ren_id v, renL_id vs]
end
theorem obRen_id (o : Ob) : o.ren (fun n => n) = o := by
  cases o with
  | box T cs => simp only [Ob.ren, renL_id]
  | row e sz rows wr => rfl
  | gone => rfl
  | map es =>
    simp only [Ob.ren]
    congr 1
    conv => rhs; rw [← List.map_id es]
    apply List.map_congr_left
    intro p _
    simp only [ren_id]; rfl

theorem subOb_ok {E : Env} {st : St} {a : Act} {w : World} (hg : Good E st a w) {lc : Loc} {o o' : Ob} (h : subOb st.ob o o') (hk : okOb E w lc o) : okOb E w lc o' ∧ blkOf lc o' = blkOf lc o := by
  unfold subOb at h
  split at h
  · rename_i T cs U ds
    obtain ⟨rfl, h⟩ := h
    obtain ⟨ys, h1, h2, h3, h4⟩ := hk
    exact ⟨⟨ys, h1, subL_rep hg cs ds ys h h2, h3, h4⟩, rfl⟩
  · obtain ⟨rfl, rfl, rfl, rfl⟩ := h; exact ⟨hk, rfl⟩
  · rw [← h]; exact ⟨hk, rfl⟩
  · exact ⟨hk, rfl⟩
  · exact h.elim

theorem Rl.weak {np : Nat} {E0 : Env} {M0 : Nat → Prop} {w0 : World} {st : St} {a : Act} {w : World} (h : Rl E0 M0 w0 st a w) (h0 : ∀ l, (E0.loc l).isSome = true → l < np) {d : SD} (hw : weakP np st d) : Rl E0 M0 w0 d.st a w := by
  obtain ⟨E, hg, he, hk⟩ := h
  obtain ⟨hok, hs, ho⟩ := weakP_iff hw
  simp only [SD.ok, Bool.and_eq_true] at hok
  obtain ⟨⟨⟨⟨k1, k2⟩, k3⟩, k4⟩, k5⟩ := hok
  let E' : Env := ⟨fun l => if d.has l = true then E.loc l else none, E.imm⟩
  have hS : Same E' E (fun n => n) d.has := ⟨fun l hl => by simp only [E', hl, if_true], rfl⟩
  have hrep : ∀ (v : V) (x : Value), v.bd d.has = true → rep E w v x → rep E' w v x := fun v x hb hx => (rep_ren hS v x hb).2 (by rw [ren_id]; exact hx)
  have hobj : ∀ l o, d.st.ob l = some o → ∃ o' lc, st.ob l = some o' ∧ subOb st.ob o' o ∧ E.loc l = some lc ∧ d.has l = true ∧ o.bd d.has = true := by
    intro l o h
    have hm := lookO_mem h
    obtain ⟨o', h1, h2⟩ := subObs_get ho l o hm
    have := hg.objs.dom l
    rw [h1] at this
    cases hl : E.loc l with
    | none => rw [hl] at this; simp at this
    | some lc => exact ⟨o', lc, h1, h2, rfl, by simp only [SD.has, show lookO l d.objs = some o from h]; rfl, List.all_eq_true.1 k3 (l, o) hm⟩
  refine ⟨E', ⟨by rw [hg.size]; exact (Nat.eq_of_beq_eq_true k1).symm, hg.defs, fun i => ?_, ?_⟩, ?_, ?_⟩
  · show rep E' w (lookV i d.slots) _
    rcases lookV_mem (r := d.slots) (i := i) with h | h
    · rw [h]; simp only [rep]
    · exact hrep _ _ (List.all_eq_true.1 k2 _ h) (subV_rep hg (st.s i) _ _ (subSlots_get hs i _ h) (hg.slots i))
  · refine ⟨fun l => ?_, fun l o lc h1 h2 => ?_, fun l l' o o' lc lc' b hne h1 h2 q1 q2 hb => ?_, hg.objs.old⟩
    · show (if d.has l = true then E.loc l else none).isSome = (lookO l d.objs).isSome
      cases hh : lookO l d.objs with
      | none => simp [SD.has, hh]
      | some o =>
        obtain ⟨o', lc, g1, g2, g3, g4, g5⟩ := hobj l o hh
        simp [g4, g3]
    · obtain ⟨o', lc', g1, g2, g3, g4, g5⟩ := hobj l o h1
      have h2' : E.loc l = some lc := by simpa only [E', g4, if_true] using h2
      obtain ⟨r1, r2⟩ := subOb_ok hg g2 (hg.objs.ok l o' lc g1 h2')
      exact (okOb_ren hS g5).2 (by rw [obRen_id]; exact r1)
    · obtain ⟨p, lp, g1, g2, g3, g4, g5⟩ := hobj l o h1
      obtain ⟨p', lp', f1, f2, f3, f4, f5⟩ := hobj l' o' h2
      have q1' : E.loc l = some lc := by simpa only [E', g4, if_true] using q1
      have q2' : E.loc l' = some lc' := by simpa only [E', f4, if_true] using q2
      obtain ⟨r1, r2⟩ := subOb_ok hg g2 (hg.objs.ok l p lc g1 q1')
      obtain ⟨s1, s2⟩ := subOb_ok hg f2 (hg.objs.ok l' p' lc' f1 q2')
      rw [s2]; rw [r2] at hb
      exact hg.objs.disj l l' p p' lc lc' b hne g1 f1 q1' q2' hb
  · refine ⟨he.os, he.tape, he.output, he.size, he.imm, he.blk, ?_, he.immNew⟩
    rintro k ⟨l, lc, o, h1, h2, h3⟩
    obtain ⟨o', lc', g1, g2, g3, g4, g5⟩ := hobj l o h2
    have h1' : E.loc l = some lc := by simpa only [E', g4, if_true] using h1
    obtain ⟨r1, r2⟩ := subOb_ok hg g2 (hg.objs.ok l o' lc g1 h1')
    exact he.own k ⟨l, lc, o', h1', g1, by rw [← r2]; exact h3⟩
  · intro l lc hl
    obtain ⟨lc', g1, g2⟩ := hk l lc hl
    have hlt := h0 l (by rw [hl]; rfl)
    have hob : (st.ob l).isSome = true := by rw [← hg.objs.dom l, g1]; rfl
    have := ltAll_get k5 l hlt
    simp only [hob, Bool.not_true, Bool.false_or] at this
    exact ⟨lc', by simp only [E', this, if_true]; exact g1, g2⟩

end Go.Proofs.Fw
