/- A part of a state is enough: what is left aside stays as it was. Calls. -/
import Derived.Test.YtnjcokelpolpcaaGreatFwH
set_option linter.unusedVariables false
set_option linter.unusedSimpArgs false
set_option linter.unusedSectionVars false
set_option linter.unnecessarySimpa false
namespace Go.Proofs.Fw
open Go Go.RowKit

/-! ### names -/
mutual
def V.ren (σ : Nat → Nat) : V → V
  | .lit v => .lit v
  | .ptr l o => .ptr (σ l) o
  | .rp l n sz i r => .rp (σ l) n sz i r
  | .ip cs => .ip cs
  | .sref l n => .sref (σ l) n
  | .mref l => .mref (σ l)
  | .clo g first caps => .clo g (renL σ first) (renL σ caps)
  | .agg cs => .agg (renL σ cs)
  | .tup vs => .tup (renL σ vs)
  | .sl sz rows => .sl sz rows
  | .own l n rows => .own (σ l) n rows
  | .dead => .dead
def renL (σ : Nat → Nat) : List V → List V
  | [] => []
  | v :: vs => V.ren σ v :: renL σ vs
end
mutual
/-- All names are such. -/
def V.bd (k : Nat → Bool) : V → Bool
  | .ptr l _ => k l
  | .rp l _ _ _ _ => k l
  | .sref l _ => k l
  | .mref l => k l
  | .own l _ _ => k l
  | .clo _ first caps => bdL k first && bdL k caps
  | .agg cs => bdL k cs
  | .tup vs => bdL k vs
  | _ => true
def bdL (k : Nat → Bool) : List V → Bool
  | [] => true
  | v :: vs => V.bd k v && bdL k vs
end
def Ob.ren (σ : Nat → Nat) : Ob → Ob
  | .box T cs => .box T (renL σ cs)
  | .row e sz rows wr => .row e sz rows wr
  | .map ents => .map (ents.map fun p => (p.1.ren σ, p.2.ren σ))
  | .gone => .gone
def Ob.bd (k : Nat → Bool) : Ob → Bool
  | .box _ cs => bdL k cs
  | .row _ _ _ _ => true
  | .map ents => ents.all fun p => p.1.bd k && p.2.bd k
  | .gone => true

theorem blt_lt {a b : Nat} (h : Nat.blt a b = true) : a < b := by simp [Nat.blt] at h; omega

/-- Two accounts that say the same of names below k, one by its own names. -/
structure Same (E' E : Env) (σ : Nat → Nat) (k : Nat → Bool) : Prop where
  loc : ∀ l, k l = true → E'.loc l = E.loc (σ l)
  imm : E'.imm = E.imm

mutual
theorem rep_ren {E' E : Env} {σ : Nat → Nat} {k : Nat → Bool} (h : Same E' E σ k) {w : World} : ∀ (v : V) (x : Value), v.bd k = true → (rep E' w v x ↔ rep E w (v.ren σ) x)
  | .lit v, x, _ => by simp only [V.ren, rep]
  | .ptr l o, x, hb => by simp only [V.ren, rep, h.loc l hb]
  | .rp l n sz i r, x, hb => by simp only [V.ren, rep, h.loc l hb]
  | .ip cs, x, _ => by simp only [V.ren, rep, h.imm]
  | .sref l n, x, hb => by simp only [V.ren, rep, h.loc l hb]
  | .mref l, x, hb => by simp only [V.ren, rep, h.loc l hb]
  | .clo g first caps, x, hb => by
    simp only [V.bd, Bool.and_eq_true] at hb
    simp only [V.ren, rep]
    constructor
    · rintro ⟨fs, cs, h1, h2, h3⟩; exact ⟨fs, cs, h1, (repL_ren h first fs hb.1).1 h2, (repL_ren h caps cs hb.2).1 h3⟩
    · rintro ⟨fs, cs, h1, h2, h3⟩; exact ⟨fs, cs, h1, (repL_ren h first fs hb.1).2 h2, (repL_ren h caps cs hb.2).2 h3⟩
  | .agg cs, x, hb => by
    simp only [V.ren, rep]
    constructor
    · rintro ⟨ys, h1, h2⟩; exact ⟨ys, h1, (repL_ren h cs ys hb).1 h2⟩
    · rintro ⟨ys, h1, h2⟩; exact ⟨ys, h1, (repL_ren h cs ys hb).2 h2⟩
  | .tup cs, x, hb => by
    simp only [V.ren, rep]
    constructor
    · rintro ⟨ys, h1, h2⟩; exact ⟨ys, h1, (repL_ren h cs ys hb).1 h2⟩
    · rintro ⟨ys, h1, h2⟩; exact ⟨ys, h1, (repL_ren h cs ys hb).2 h2⟩
  | .sl sz rows, x, _ => by simp only [V.ren, rep, h.imm]
  | .own l n _, x, hb => by simp only [V.ren, rep, h.loc l hb]
  | .dead, x, _ => by simp only [V.ren, rep]
theorem repL_ren {E' E : Env} {σ : Nat → Nat} {k : Nat → Bool} (h : Same E' E σ k) {w : World} : ∀ (vs : List V) (xs : List Value), bdL k vs = true → (repL E' w vs xs ↔ repL E w (renL σ vs) xs)
  | [], xs, _ => by simp only [renL, repL]
  | v :: vs, xs, hb => by
    simp only [bdL, Bool.and_eq_true] at hb
    simp only [renL, repL]
    constructor
    · rintro ⟨y, ys, h1, h2, h3⟩; exact ⟨y, ys, h1, (rep_ren h v y hb.1).1 h2, (repL_ren h vs ys hb.2).1 h3⟩
    · rintro ⟨y, ys, h1, h2, h3⟩; exact ⟨y, ys, h1, (rep_ren h v y hb.1).2 h2, (repL_ren h vs ys hb.2).2 h3⟩
end

theorem entRep_ren {E' E : Env} {σ : Nat → Nat} {k : Nat → Bool} (h : Same E' E σ k) {w : World} : ∀ (r : List (V × V)) (es : List MapEntry), (r.all fun p => p.1.bd k && p.2.bd k) = true →
    (entRep E' w r es ↔ entRep E w (r.map fun p => (p.1.ren σ, p.2.ren σ)) es)
  | [], es, _ => by simp only [List.map_nil, entRep]
  | (a, b) :: r, es, hb => by
    simp only [List.all_cons, Bool.and_eq_true] at hb
    simp only [List.map_cons, entRep]
    constructor
    · rintro ⟨e, es', h1, h2, h3, h4⟩; exact ⟨e, es', h1, (rep_ren h _ _ hb.1.1).1 h2, (rep_ren h _ _ hb.1.2).1 h3, (entRep_ren h r es' hb.2).1 h4⟩
    · rintro ⟨e, es', h1, h2, h3, h4⟩; exact ⟨e, es', h1, (rep_ren h _ _ hb.1.1).2 h2, (rep_ren h _ _ hb.1.2).2 h3, (entRep_ren h r es' hb.2).2 h4⟩

theorem okOb_ren {E' E : Env} {σ : Nat → Nat} {k : Nat → Bool} (h : Same E' E σ k) {w : World} {lc : Loc} {o : Ob} (hb : o.bd k = true) : okOb E' w lc o ↔ okOb E w lc (o.ren σ) := by
  cases o with
  | box T cs =>
    simp only [okOb, Ob.ren, h.imm]
    constructor
    · rintro ⟨ys, h1, h2, h3⟩; exact ⟨ys, h1, (repL_ren h cs ys hb).1 h2, h3⟩
    · rintro ⟨ys, h1, h2, h3⟩; exact ⟨ys, h1, (repL_ren h cs ys hb).2 h2, h3⟩
  | row e sz rows wr => simp only [okOb, Ob.ren, h.imm]
  | map ents =>
    simp only [okOb, Ob.ren, h.imm]
    constructor
    · rintro ⟨es, c, h1, h2, h3⟩; exact ⟨es, c, h1, (entRep_ren h ents es.toList hb).1 h2, h3⟩
    · rintro ⟨es, c, h1, h2, h3⟩; exact ⟨es, c, h1, (entRep_ren h ents es.toList hb).2 h2, h3⟩
  | gone => simp only [okOb, Ob.ren]

theorem blkOf_ren {lc : Loc} {o : Ob} {σ : Nat → Nat} : blkOf lc (o.ren σ) = blkOf lc o := by cases o <;> rfl

/-! ### a part, handed on under other names -/
/-- The place of a name in a list. -/
def find (n : Nat) : List Nat → Nat → Option Nat
  | [], _ => none
  | m :: ms, i => bif Nat.beq n m then some i else find n ms (i + 1)
theorem find_some {n : Nat} : ∀ {ms : List Nat} {i j : Nat}, find n ms i = some j → i ≤ j ∧ ms[j - i]? = some n
  | [], i, j, h => by simp [find] at h
  | m :: ms, i, j, h => by
    simp only [find] at h
    cases hb : Nat.beq n m with
    | true =>
      simp only [hb, cond_true, Option.some.injEq] at h; subst h
      simp [Nat.eq_of_beq_eq_true hb]
    | false =>
      simp only [hb, cond_false] at h
      obtain ⟨h1, h2⟩ := find_some h
      refine ⟨by omega, ?_⟩
      rw [show j - i = (j - (i + 1)) + 1 from by omega]
      simpa using h2
theorem find_none {n : Nat} : ∀ {ms : List Nat} {i : Nat}, find n ms i = none → n ∉ ms
  | [], _, _ => by simp
  | m :: ms, i, h => by
    simp only [find] at h
    cases hb : Nat.beq n m with
    | true => simp [hb] at h
    | false =>
      simp only [hb, cond_false] at h
      have h1 := find_none h
      have h2 : n ≠ m := by rintro rfl; simp at hb
      simp [h1, h2]
theorem nd_inj : ∀ {ms : List Nat} {i j n : Nat}, ms.Nodup → ms[i]? = some n → ms[j]? = some n → i = j
  | [], i, j, n, _, h, _ => by simp at h
  | m :: ms, 0, 0, n, _, _, _ => rfl
  | m :: ms, 0, j + 1, n, hn, h1, h2 => by
    simp only [List.getElem?_cons_zero, Option.some.injEq] at h1; subst h1
    simp only [List.getElem?_cons_succ] at h2
    exact absurd (List.mem_of_getElem? h2) (List.nodup_cons.1 hn).1
  | m :: ms, i + 1, 0, n, hn, h1, h2 => by
    simp only [List.getElem?_cons_zero, Option.some.injEq] at h2; subst h2
    simp only [List.getElem?_cons_succ] at h1
    exact absurd (List.mem_of_getElem? h1) (List.nodup_cons.1 hn).1
  | m :: ms, i + 1, j + 1, n, hn, h1, h2 => by
    simp only [List.getElem?_cons_succ] at h1 h2
    rw [nd_inj (List.nodup_cons.1 hn).2 h1 h2]
theorem find_at {ms : List Nat} (hnd : ms.Nodup) {j n : Nat} (h : ms[j]? = some n) : find n ms 0 = some j := by
  cases hf : find n ms 0 with
  | none => exact absurd (List.mem_of_getElem? h) (find_none hf)
  | some i =>
    obtain ⟨_, h2⟩ := find_some hf
    simp only [Nat.sub_zero] at h2
    rw [nd_inj hnd h2 h]

/-- The part's account, by the part's own names 0, 1, ..: 'ns' says which of the whole's. -/
def partE (E : Env) (ns : List Nat) (k : Nat) : Env := { loc := fun l => if l < k then E.loc (ns.getD l 0) else none, imm := E.imm }
/-- The whole's account behind it. -/
def mergeL (f f' : Nat → Option Loc) (ns : List Nat) (n : Nat) : Option Loc := match find n ns 0 with
  | some j => f' j
  | none => f n
def mergeE (E E' : Env) (ns : List Nat) : Env := ⟨mergeL E.loc E'.loc ns, E'.imm⟩
def mergeO (ob : Nat → Option Ob) (obs' : List Ob) (ns : List Nat) : Nat → Option Ob := fun n => match find n ns 0 with
  | some j => (obs'[j]?).map (Ob.ren (ns.getD · 0))
  | none => ob n
def ofL (obs : List Ob) : Nat → Option Ob := fun l => obs[l]?

/-- The part stands, by its own names. -/
theorem part_real {E : Env} {ob : Nat → Option Ob} {w : World} (h : RealO E ob w) {ns : List Nat} {obs : List Ob} (hnd : ns.Nodup) (hlen : obs.length ≤ ns.length)
    (hob : ∀ i, i < obs.length → ob (ns.getD i 0) = (obs[i]?).map (Ob.ren (ns.getD · 0))) (hbd : obs.all (Ob.bd (Nat.blt · obs.length)) = true) :
    RealO (partE E ns obs.length) (ofL obs) w := by
  have hS : Same (partE E ns obs.length) E (ns.getD · 0) (Nat.blt · obs.length) := ⟨fun l hl => by simp [partE, blt_lt hl], rfl⟩
  have hlook : ∀ l o, ofL obs l = some o → l < obs.length ∧ ob (ns.getD l 0) = some (o.ren (ns.getD · 0)) ∧ o.bd (Nat.blt · obs.length) = true := by
    intro l o ho
    have hl : l < obs.length := (List.getElem?_eq_some_iff.1 ho).1
    refine ⟨hl, by rw [hob l hl, show obs[l]? = some o from ho]; rfl, ?_⟩
    exact List.all_eq_true.1 hbd o (List.mem_of_getElem? ho)
  have hinj : ∀ l l', l < obs.length → l' < obs.length → l ≠ l' → ns.getD l 0 ≠ ns.getD l' 0 := by
    intro l l' h1 h2 hne he
    have e1 : ns[l]? = some (ns.getD l 0) := by
      rw [List.getD_eq_getElem?_getD, List.getElem?_eq_getElem (by omega)]; rfl
    have e2 : ns[l']? = some (ns.getD l 0) := by
      rw [he, List.getD_eq_getElem?_getD, List.getElem?_eq_getElem (by omega)]; rfl
    exact hne (nd_inj hnd e1 e2)
  refine ⟨fun l => ?_, fun l o lc h1 h2 => ?_, fun l l' o o' lc lc' b hne h1 h2 k1 k2 hb => ?_, h.old⟩
  · by_cases hl : l < obs.length
    · have := h.dom (ns.getD l 0)
      rw [hob l hl] at this
      simp only [partE, if_pos hl, ofL]
      rw [this]
      simp
    · simp [partE, hl, ofL, List.getElem?_eq_none (Nat.le_of_not_lt hl)]
  · obtain ⟨q1, q2, q3⟩ := hlook l o h1
    simp only [partE, if_pos q1] at h2
    exact (okOb_ren hS q3).2 (h.ok _ _ lc q2 h2)
  · obtain ⟨q1, q2, q3⟩ := hlook l o h1
    obtain ⟨r1, r2, r3⟩ := hlook l' o' h2
    simp only [partE, if_pos q1] at k1
    simp only [partE, if_pos r1] at k2
    have := h.disj _ _ _ _ lc lc' b (hinj l l' q1 r1 hne) q2 r2 k1 k2 (by rw [blkOf_ren]; exact hb)
    rwa [blkOf_ren] at this

/-- The whole stands again, when the part does. -/
theorem merge_real {E : Env} {st : St} {a : Act} {w w' : World} (hg : Good E st a w) {ns : List Nat} {obs obs' : List Ob} (hnd : ns.Nodup) (hle : obs.length ≤ obs'.length) (hlen : obs'.length = ns.length)
    (hob : ∀ i, i < obs.length → st.ob (ns.getD i 0) = (obs[i]?).map (Ob.ren (ns.getD · 0))) (hnew : ∀ i, obs.length ≤ i → i < ns.length → st.ob (ns.getD i 0) = none) (hbd' : obs'.all (Ob.bd (Nat.blt · obs'.length)) = true)
    {E' : Env} (hr : RealO E' (ofL obs') w') (he : Ext (partE E ns obs.length) (mod (partE E ns obs.length) (ofL obs)) w E' w' (ofL obs')) (hk : LocKept (partE E ns obs.length) E') :
    Good (mergeE E E' ns) { st with ob := mergeO st.ob obs' ns } a w' ∧ Ext E (mod E st.ob) w (mergeE E E' ns) w' (mergeO st.ob obs' ns) ∧ LocKept E (mergeE E E' ns) ∧ Same E' (mergeE E E' ns) (ns.getD · 0) (Nat.blt · obs'.length) := by
  have hS : Same E' (mergeE E E' ns) (ns.getD · 0) (Nat.blt · obs'.length) := by
    refine ⟨fun l hl => ?_, rfl⟩
    have hl := blt_lt hl
    have hn : ns[l]? = some (ns.getD l 0) := by
      rw [List.getD_eq_getElem?_getD, List.getElem?_eq_getElem (by omega)]; rfl
    simp only [mergeE, mergeL, find_at hnd hn]
  have hmodp : ∀ b, mod (partE E ns obs.length) (ofL obs) b → mod E st.ob b := by
    rintro b ⟨l, lc, o, h1, h2, h3⟩
    have hl : l < obs.length := (List.getElem?_eq_some_iff.1 h2).1
    simp only [partE, if_pos hl] at h1
    exact ⟨ns.getD l 0, lc, o.ren (ns.getD · 0), h1, by rw [hob l hl, show obs[l]? = some o from h2]; rfl, by rw [blkOf_ren]; exact h3⟩
  have hfind : ∀ n j, find n ns 0 = some j → j < ns.length ∧ ns.getD j 0 = n := by
    intro n j h
    obtain ⟨_, h2⟩ := find_some h
    simp only [Nat.sub_zero] at h2
    exact ⟨(List.getElem?_eq_some_iff.1 h2).1, by rw [List.getD_eq_getElem?_getD, h2]; rfl⟩
  have hI : ImmKept E.imm (mergeE E E' ns).imm w w' := he.imm
  have hK : LocKept E (mergeE E E' ns) := by
    intro n lc h
    simp only [mergeE, mergeL]
    cases hf : find n ns 0 with
    | none => exact ⟨lc, h, rfl, Nat.le_refl _, fun _ => rfl⟩
    | some j =>
      obtain ⟨h1, h2⟩ := hfind n j hf
      by_cases hj : j < obs.length
      · exact hk j lc (by simp only [partE, if_pos hj, h2]; exact h)
      · have := dom_none hg.objs (hnew j (by omega) h1)
        rw [h2, h] at this
        simp at this
  have hlt : ∀ l' o' lc' b, st.ob l' = some o' → E.loc l' = some lc' → blkOf lc' o' = some b → b < w.heap.size := by
    intro l' o' lc' b h1 h2 h3
    have hk := hg.objs.ok l' o' lc' h1 h2
    cases o' with
    | box T cells =>
      obtain ⟨ys, k1, _⟩ := hk
      simp only [blkOf, Option.some.injEq] at h3; subst h3
      exact (Array.getElem?_eq_some_iff.1 k1).1
    | row e sz rows wr =>
      obtain ⟨_, _, _, xs, k1, _⟩ := hk
      exact (k1.lt b h3).2
    | map ents =>
      obtain ⟨es, clock, k1, _⟩ := hk
      simp only [blkOf, Option.some.injEq] at h3; subst h3
      exact (Array.getElem?_eq_some_iff.1 k1).1
    | gone => simp [blkOf] at h3
  -- an object that was not handed on: its block is none of the part's
  have hoth : ∀ n o lc b, find n ns 0 = none → st.ob n = some o → E.loc n = some lc → blkOf lc o = some b → ¬ mod (partE E ns obs.length) (ofL obs) b := by
    rintro n o lc b hf h1 h2 h3 ⟨l, lc', o', k1, k2, k3⟩
    have hl : l < obs.length := (List.getElem?_eq_some_iff.1 k2).1
    simp only [partE, if_pos hl] at k1
    have hln : ns[l]? = some (ns.getD l 0) := by
      rw [List.getD_eq_getElem?_getD, List.getElem?_eq_getElem (by omega)]; rfl
    have hne : n ≠ ns.getD l 0 := fun e => by
      rw [e, find_at hnd hln] at hf; simp at hf
    exact hg.objs.disj n (ns.getD l 0) o _ lc lc' b hne h1 (by rw [hob l hl, show obs[l]? = some o' from k2]; rfl) h2 k1 h3 (by rw [blkOf_ren]; exact k3)
  have hunch : ∀ n o lc b, find n ns 0 = none → st.ob n = some o → E.loc n = some lc → blkOf lc o = some b → w'.heap[b]? = w.heap[b]? ∧ ∀ i, E'.imm b i → E.imm b i := by
    intro n o lc b hf h1 h2 h3
    have hnm := hoth n o lc b hf h1 h2 h3
    have hb := hlt n o lc b h1 h2 h3
    refine ⟨he.blk b hb hnm, fun i hi => ?_⟩
    rcases he.immNew b i hi with h | h | h
    · exact h
    · exact absurd h hnm
    · omega
  refine ⟨⟨hg.size, hg.defs, fun i => rep_mono hI hK _ _ (hg.slots i), ?_⟩, ?_, hK, hS⟩
  · refine ⟨fun n => ?_, fun n o lc h1 h2 => ?_, fun n n' o o' lc lc' b hne h1 h2 k1 k2 hb => ?_, hr.old⟩
    · simp only [mergeE, mergeL, mergeO]
      cases hf : find n ns 0 with
      | none => exact hg.objs.dom n
      | some j =>
        have := hr.dom j
        simp only [this, ofL]
        simp
    · simp only [mergeE, mergeL, mergeO] at h1 h2
      cases hf : find n ns 0 with
      | none =>
        simp only [hf] at h1 h2
        exact okOb_mono hI hK (fun b hb => hunch n o lc b hf h1 h2 hb) (hg.objs.ok n o lc h1 h2)
      | some j =>
        simp only [hf, Option.map_eq_some_iff] at h1 h2
        obtain ⟨o', g1, rfl⟩ := h1
        exact (okOb_ren hS (List.all_eq_true.1 hbd' o' (List.mem_of_getElem? g1))).1 (hr.ok j o' lc g1 h2)
    · simp only [mergeE, mergeL, mergeO] at h1 h2 k1 k2
      cases hf : find n ns 0 with
      | none =>
        simp only [hf] at h1 k1
        cases hf' : find n' ns 0 with
        | none =>
          simp only [hf'] at h2 k2
          exact hg.objs.disj n n' o o' lc lc' b hne h1 h2 k1 k2 hb
        | some j =>
          simp only [hf', Option.map_eq_some_iff] at h2 k2
          obtain ⟨o'', g1, rfl⟩ := h2
          rw [blkOf_ren]
          intro hb'
          rcases he.own b ⟨j, lc', o'', k2, g1, hb'⟩ with h | h
          · exact hoth n o lc b hf h1 k1 hb h
          · have := hlt n o lc b h1 k1 hb; omega
      | some j =>
        simp only [hf, Option.map_eq_some_iff] at h1 k1
        obtain ⟨o'', g1, rfl⟩ := h1
        rw [blkOf_ren] at hb
        cases hf' : find n' ns 0 with
        | none =>
          simp only [hf'] at h2 k2
          intro hb'
          rcases he.own b ⟨j, lc, o'', k1, g1, hb⟩ with h | h
          · exact hoth n' o' lc' b hf' h2 k2 hb' h
          · have := hlt n' o' lc' b h2 k2 hb'; omega
        | some j' =>
          simp only [hf', Option.map_eq_some_iff] at h2 k2
          obtain ⟨o3, g2, rfl⟩ := h2
          rw [blkOf_ren]
          refine hr.disj j j' o'' o3 lc lc' b (fun e => hne ?_) g1 g2 k1 k2 hb
          subst e
          rw [← (hfind n j hf).2, ← (hfind n' j hf').2]
  · refine ⟨he.os, he.tape, he.output, he.size, hI, fun k hk hm => he.blk k hk (fun h => hm (hmodp k h)), ?_, fun b o h => ?_⟩
    · rintro b ⟨n, lc, o, h1, h2, h3⟩
      simp only [mergeE, mergeL, mergeO] at h1 h2
      cases hf : find n ns 0 with
      | none =>
        simp only [hf] at h1 h2
        exact .inl ⟨n, lc, o, h1, h2, h3⟩
      | some j =>
        simp only [hf, Option.map_eq_some_iff] at h1 h2
        obtain ⟨o', g1, rfl⟩ := h2
        rw [blkOf_ren] at h3
        rcases he.own b ⟨j, lc, o', h1, g1, h3⟩ with h | h
        · exact .inl (hmodp b h)
        · exact .inr h
    · rcases he.immNew b o h with h | h | h
      · exact .inl h
      · exact .inr (.inl (hmodp b h))
      · exact .inr (.inr h)

end Go.Proofs.Fw
