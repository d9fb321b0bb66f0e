/- A function's state told without memory, and what the machine's memory owes to it. -/
import Derived.Test.YtnjcokelpolpcaaGreatFwA
set_option linter.unusedVariables false
set_option linter.unusedSimpArgs false
set_option linter.unusedSectionVars false
set_option linter.unnecessarySimpa false
namespace Go.Proofs.Fw
open Go Go.RowKit

/-- A named object: a variable's cells; a list's own row; a map. -/
inductive Ob where
  | box (T : Nat) (cells : List V)
  | row (e sz : Nat) (rows : List (List V)) (wr : Bool)
  | map (ents : List (V × V))
  | gone
  deriving Inhabited

def blkOf (lc : Loc) : Ob → Option Nat
  | .box _ _ => some lc.blk
  | .row .. => lc.row.ownBlock
  | .map _ => some lc.blk
  | .gone => none

/-- A map's entries: keys and values can't be changed from outside. -/
def entRep (E : Env) (w : World) : List (V × V) → List MapEntry → Prop
  | [], es => es = []
  | (k, v) :: r, es => ∃ e es', es = e :: es' ∧ rep E w k e.key ∧ rep E w v e.val ∧ entRep E w r es'

def okOb (E : Env) (w : World) (lc : Loc) : Ob → Prop
  | .box T cells => ∃ (ys : List Value), w.heap[lc.blk]? = some (.cells ys.toArray T (0, 0)) ∧ repL E w cells ys ∧ (∀ y ∈ ys, y.oneCell' = true) ∧ ∀ o, ¬ E.imm lc.blk o
  | .row e sz rows wr => lc.len = rows.length ∧ 0 < sz ∧ (∀ r ∈ rows, r.length = sz) ∧ ∃ xs, w.ownsRow 0 e sz lc.row rows.length xs ∧ irepL E.imm w rows.flatten xs ∧
      (∀ b, lc.row.ownBlock = some b → ∀ o, (wr = true ∨ rows.length * sz ≤ o) → ¬ E.imm b o) ∧ (wr = false → ∀ b, lc.row.ownBlock = some b → ∀ o, o < rows.length * sz → E.imm b o)
  | .map ents => ∃ es clock, w.heap[lc.blk]? = some (.map es clock) ∧ entRep E w ents es.toList ∧ ∀ o, ¬ E.imm lc.blk o
  | .gone => True

theorem entRep_mono {E E' : Env} {w w' : World} (h : ImmKept E.imm E'.imm w w') (k : LocKept E E') : ∀ (r : List (V × V)) (es : List MapEntry), entRep E w r es → entRep E' w' r es
  | [], _, hx => by simpa only [entRep] using hx
  | (a, b) :: r, _, hx => by
    simp only [entRep] at hx ⊢
    obtain ⟨e, es, h1, h2, h3, h4⟩ := hx
    exact ⟨e, es, h1, rep_mono h k _ _ h2, rep_mono h k _ _ h3, entRep_mono h k r es h4⟩

structure RealO (E : Env) (ob : Nat → Option Ob) (w : World) : Prop where
  dom : ∀ l, (E.loc l).isSome = (ob l).isSome
  ok : ∀ l o lc, ob l = some o → E.loc l = some lc → okOb E w lc o
  disj : ∀ l l' o o' lc lc' b, l ≠ l' → ob l = some o → ob l' = some o' → E.loc l = some lc → E.loc l' = some lc' → blkOf lc o = some b → blkOf lc' o' ≠ some b
  old : ∀ b o, E.imm b o → b < w.heap.size

/-- The blocks that a state's objects lie in. -/
def mod (E : Env) (ob : Nat → Option Ob) (k : Nat) : Prop := ∃ l lc o, E.loc l = some lc ∧ ob l = some o ∧ blkOf lc o = some k

/-- What became of memory: only the state's own objects, and new blocks, are other than they were. -/
structure Ext (E0 : Env) (M0 : Nat → Prop) (w0 : World) (E : Env) (w : World) (ob : Nat → Option Ob) : Prop where
  os : w.os = w0.os
  tape : w.tape = w0.tape
  output : w.output = w0.output
  size : w0.heap.size ≤ w.heap.size
  imm : ImmKept E0.imm E.imm w0 w
  blk : ∀ k, k < w0.heap.size → ¬ M0 k → w.heap[k]? = w0.heap[k]?
  own : ∀ k, mod E ob k → M0 k ∨ w0.heap.size ≤ k
  immNew : ∀ b o, E.imm b o → E0.imm b o ∨ M0 b ∨ w0.heap.size ≤ b

theorem Ext.refl (E : Env) (w : World) (ob : Nat → Option Ob) : Ext E (mod E ob) w E w ob :=
  ⟨rfl, rfl, rfl, Nat.le_refl _, fun b o h => ⟨h, rfl⟩, fun _ _ _ => rfl, fun _ h => .inl h, fun _ _ h => .inl h⟩

theorem Ext.trans {E0 E E' : Env} {M0 : Nat → Prop} {w0 w w' : World} {ob ob' : Nat → Option Ob} (h : Ext E0 M0 w0 E w ob) (k : Ext E (mod E ob) w E' w' ob') : Ext E0 M0 w0 E' w' ob' where
  os := k.os.trans h.os
  tape := k.tape.trans h.tape
  output := k.output.trans h.output
  size := Nat.le_trans h.size k.size
  imm := fun b o hb => ⟨(k.imm b o (h.imm b o hb).1).1, (k.imm b o (h.imm b o hb).1).2.trans (h.imm b o hb).2⟩
  blk := fun i hi hm => (k.blk i (Nat.lt_of_lt_of_le hi h.size) (fun hk => by rcases h.own i hk with h1 | h1; exact hm h1; omega)).trans (h.blk i hi hm)
  own := fun i hi => by
    rcases k.own i hi with h1 | h1
    · exact h.own i h1
    · exact .inr (Nat.le_trans h.size h1)
  immNew := fun b o hb => by
    rcases k.immNew b o hb with h1 | h1 | h1
    · exact h.immNew b o h1
    · exact .inr (h.own b h1)
    · exact .inr (.inr (Nat.le_trans h.size h1))

/-- An object that no step touched. -/
theorem okOb_mono {E E' : Env} {w w' : World} (h : ImmKept E.imm E'.imm w w') (k : LocKept E E') {lc : Loc} {ob : Ob} (hb : ∀ b, blkOf lc ob = some b → w'.heap[b]? = w.heap[b]? ∧ ∀ o, E'.imm b o → E.imm b o)
    (hok : okOb E w lc ob) : okOb E' w' lc ob := by
  cases ob with
  | box T cells =>
    obtain ⟨ys, h1, h2, h3, h4⟩ := hok
    obtain ⟨k1, k2⟩ := hb lc.blk rfl
    exact ⟨ys, k1.trans h1, repL_mono h k _ _ h2, h3, fun o ho => h4 o (k2 o ho)⟩
  | row e sz rows wr =>
    obtain ⟨h1, h2, h3, xs, h4, h5, h6, h7⟩ := hok
    refine ⟨h1, h2, h3, xs, ?_, irepL_mono h _ _ h5, fun b hbb o ho hi => h6 b hbb o ho ((hb b hbb).2 o hi), fun hw b hbb o ho => (h b o (h7 hw b hbb o ho)).1⟩
    obtain ⟨g1, g2⟩ := h4
    refine ⟨g1, g2.imp id ?_⟩
    rintro ⟨g, cap, cur, e1, e2, e3, e4⟩
    exact ⟨g, cap, cur, e1, e2, (hb g (by simp [blkOf, e1, Value.ownBlock])).1.trans e3, e4⟩
  | map ents =>
    obtain ⟨es, clock, h1, h2, h3⟩ := hok
    obtain ⟨k1, k2⟩ := hb lc.blk rfl
    exact ⟨es, clock, k1.trans h1, entRep_mono h k _ _ h2, fun o ho => h3 o (k2 o ho)⟩
  | gone => trivial

/-- A function's state: slots and objects. -/
structure St where
  n : Nat
  s : Nat → V
  ob : Nat → Option Ob
  nx : Nat

def updf {α : Type} (f : Nat → α) (i : Nat) (v : α) : Nat → α := fun j => bif Nat.beq j i then v else f j
theorem updf_same {α : Type} (f : Nat → α) (i : Nat) (v : α) : updf f i v i = v := by simp [updf]
theorem updf_other {α : Type} (f : Nat → α) {i j : Nat} (v : α) (h : j ≠ i) : updf f i v j = f j := by
  have : Nat.beq j i = false := by
    cases hb : Nat.beq j i with
    | false => rfl
    | true => exact absurd (Nat.eq_of_beq_eq_true hb) h
  simp [updf, this]

structure Good (E : Env) (st : St) (a : Act) (w : World) : Prop where
  size : a.tmps.size = st.n
  defs : a.defers = []
  slots : ∀ i, rep E w (st.s i) (a.tmps.getD i undef)
  objs : RealO E st.ob w

/-- The state stands in memory, and memory came from where the function began. -/
def Rl (E0 : Env) (M0 : Nat → Prop) (w0 : World) (st : St) (a : Act) (w : World) : Prop :=
  ∃ E, Good E st a w ∧ Ext E0 M0 w0 E w st.ob ∧ LocKept E0 E

def ev (st : St) : Operand → V
  | .tmp t => st.s t
  | .const v => .lit v
  | .global _ => .dead
  | .func f => .clo f [] []

theorem ev_rep {E : Env} {st : St} {a : Act} {w : World} (h : Good E st a w) (x : Operand) : rep E w (ev st x) (a.eval x) := by
  cases x with
  | tmp t => exact h.slots t
  | const v => simp [ev, rep, Act.eval]
  | global g => simp [ev, rep]
  | func f => simp only [ev, rep, Act.eval]; exact ⟨[], [], rfl, by simp only [repL], by simp only [repL]⟩

/-- A slot written. -/
def St.set (st : St) (d : Option Nat) (v : V) : St := match d with
  | some d => { st with s := updf st.s d v }
  | none => st
def St.fits (st : St) : Option Nat → Bool
  | some d => Nat.blt d st.n
  | none => true

theorem Good.put {E : Env} {st : St} {a : Act} {w : World} (h : Good E st a w) {d : Option Nat} (hd : st.fits d = true) {v : V} {x : Value} (hx : rep E w v x) :
    Good E (st.set d v) (a.put d x) w := by
  cases d with
  | none => exact h
  | some d =>
    have hd' : d < st.n := by simpa [St.fits] using hd
    refine ⟨by simp [St.set, Act.put, h.size], by simpa [Act.put] using h.defs, fun i => ?_, h.objs⟩
    simp only [St.set, Act.put]
    by_cases hi : i = d
    · subst hi
      rw [updf_same, Array.getD_eq_getD_getElem?, Array.getElem?_setIfInBounds_self_of_lt (by rw [h.size]; exact hd')]
      exact hx
    · rw [updf_other _ _ hi, Array.getD_eq_getD_getElem?, Array.getElem?_setIfInBounds_ne (Ne.symm hi), ← Array.getD_eq_getD_getElem?]
      exact h.slots i

theorem Rl.put {E0 : Env} {M0 : Nat → Prop} {w0 : World} {E : Env} {st : St} {a : Act} {w : World} (h : Good E st a w) (e : Ext E0 M0 w0 E w st.ob) (k : LocKept E0 E) {d : Option Nat}
    (hd : st.fits d = true) {v : V} {x : Value} (hx : rep E w v x) : Rl E0 M0 w0 (st.set d v) (a.put d x) w :=
  ⟨E, h.put hd hx, by cases d <;> exact e, k⟩

/-- An operation that leads from one state to another one. -/
def Step (P : Program) (o : Oper) (st st' : St) : Prop :=
  ∀ (Q : Exit → Act → World → Prop) (E0 : Env) (M0 : Nat → Prop) (w0 : World) (a : Act) (w : World), Rl E0 M0 w0 st a w → o.wp P a w (fun a' w' => (∃ x, a' = a.put o.dst x) ∧ Rl E0 M0 w0 st' a' w') Q

/-- An operation that only tells a value. -/
theorem Step.pure {P : Program} {o : Oper} {st : St} {v : V} (hd : st.fits o.dst = true)
    (h : ∀ (E : Env) (a : Act) (w : World), Good E st a w → ∃ x, (execOp a.eval o).run P w = .ok (.value x) w ∧ rep E w v x) : Step P o st (st.set o.dst v) := by
  rintro Q E0 M0 w0 a w ⟨E, hg, he, hk⟩
  obtain ⟨x, hr, hx⟩ := h E a w hg
  unfold Oper.wp
  rw [hr]
  exact ⟨⟨_, rfl⟩, Rl.put hg he hk hd hx⟩

/-- The world draws: nothing that is told turns. -/
theorem Good.drew {E : Env} {st : St} {a : Act} {w : World} (h : Good E st a w) : Good E st a w.drew := by
  have hI : ImmKept E.imm E.imm w w.drew := fun b o hb => ⟨hb, rfl⟩
  refine ⟨h.size, h.defs, fun i => rep_mono hI (LocKept.refl E) _ _ (h.slots i), ?_⟩
  refine ⟨h.objs.dom, fun l o lc h1 h2 => okOb_mono hI (LocKept.refl E) (fun b _ => ⟨rfl, fun _ h => h⟩) (h.objs.ok l o lc h1 h2), h.objs.disj, h.objs.old⟩
theorem Rl.drew {E0 : Env} {M0 : Nat → Prop} {w0 : World} {st : St} {a : Act} {w : World} (h : Rl E0 M0 w0 st a w) : Rl E0 M0 w0 st a w.drew := by
  obtain ⟨E, hg, he, hk⟩ := h
  exact ⟨E, hg.drew, ⟨he.os, he.tape, he.output, he.size, he.imm, he.blk, he.own, he.immNew⟩, hk⟩

/-- One object is laid anew or changed, all others are as they were: the whole state stands. -/
theorem RealO.change {E E' : Env} {ob ob' : Nat → Option Ob} {w w' : World} (h : RealO E ob w) (l : Nat) (hI : ImmKept E.imm E'.imm w w') (hK : LocKept E E')
    (hloc : ∀ l', l' ≠ l → E'.loc l' = E.loc l') (hob : ∀ l', l' ≠ l → ob' l' = ob l') (hsome : (E'.loc l).isSome = (ob' l).isSome)
    (hoth : ∀ l' o lc b, l' ≠ l → ob l' = some o → E.loc l' = some lc → blkOf lc o = some b → w'.heap[b]? = w.heap[b]? ∧ ∀ i, E'.imm b i → E.imm b i)
    (hnew : ∀ o lc, ob' l = some o → E'.loc l = some lc → okOb E' w' lc o)
    (hdis : ∀ o lc b, ob' l = some o → E'.loc l = some lc → blkOf lc o = some b → ∀ l' o' lc', l' ≠ l → ob l' = some o' → E.loc l' = some lc' → blkOf lc' o' ≠ some b)
    (hold : ∀ b o, E'.imm b o → b < w'.heap.size) : RealO E' ob' w' where
  dom := fun l' => by
    by_cases e : l' = l
    · subst e; exact hsome
    · rw [hloc l' e, hob l' e]; exact h.dom l'
  ok := fun l' o lc h1 h2 => by
    by_cases e : l' = l
    · subst e; exact hnew o lc h1 h2
    · rw [hob l' e] at h1; rw [hloc l' e] at h2
      exact okOb_mono hI hK (fun b hb => hoth l' o lc b e h1 h2 hb) (h.ok l' o lc h1 h2)
  disj := fun l1 l2 o1 o2 lc1 lc2 b hne h1 h2 k1 k2 hb => by
    by_cases e1 : l1 = l
    · subst e1
      have e2 : l2 ≠ l1 := Ne.symm hne
      rw [hob l2 e2] at h2; rw [hloc l2 e2] at k2
      exact hdis o1 lc1 b h1 k1 hb l2 o2 lc2 e2 h2 k2
    · rw [hob l1 e1] at h1; rw [hloc l1 e1] at k1
      by_cases e2 : l2 = l
      · subst e2
        intro hb2
        exact hdis o2 lc2 b h2 k2 hb2 l1 o1 lc1 e1 h1 k1 hb
      · rw [hob l2 e2] at h2; rw [hloc l2 e2] at k2
        exact h.disj l1 l2 o1 o2 lc1 lc2 b hne h1 h2 k1 k2 hb
  old := hold

end Go.Proofs.Fw
