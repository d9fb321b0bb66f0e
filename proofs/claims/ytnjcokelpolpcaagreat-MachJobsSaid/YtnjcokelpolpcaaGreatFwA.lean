/- Values told without memory: what a machine's value stands for, and how that lasts while memory grows. -/
import Derived.WalkKit
import Derived.KernelRfl
import Derived.Orders
set_option linter.unusedVariables false
set_option linter.unusedSimpArgs false
set_option linter.unusedSectionVars false
set_option linter.unnecessarySimpa false
namespace Go.Proofs.Fw
open Go Go.RowKit

/-- What a slot or a cell holds. -/
inductive V where
  | lit (v : Value)
  | ptr (l o : Nat)
  | rp (l n sz i r : Nat)
  | ip (cs : List V)
  | sref (l n : Nat)
  | mref (l : Nat)
  | clo (g : Nat) (first caps : List V)
  | agg (cs : List V)
  | tup (vs : List V)
  | sl (sz : Nat) (rows : List (List V))
  | own (e sz : Nat) (rows : List (List V))
  | dead
  deriving Inhabited

/-- Where a named object lies. -/
structure Loc where
  blk : Nat
  row : Value
  len : Nat

structure Env where
  loc : Nat → Option Loc
  imm : Nat → Nat → Prop

mutual
def irep (I : Nat → Nat → Prop) (w : World) : V → Value → Prop
  | .lit v, x => x = v ∧ v.oneCell' = true
  | .sl sz rows, x => ∃ a cap, x = .slice a rows.length cap ∧ (rows.length ≤ cap ∧ cap ≤ maxLen) ∧ (rows = [] ∨ ∃ b o, a = some ⟨b, o, none⟩ ∧ irows I w b o sz rows)
  | _, _ => False
def irows (I : Nat → Nat → Prop) (w : World) (b : Nat) (o : Nat) (sz : Nat) : List (List V) → Prop
  | [] => True
  | r :: rs => r.length = sz ∧ icells I w b o r ∧ irows I w b (o + sz) sz rs
def icells (I : Nat → Nat → Prop) (w : World) (b : Nat) (o : Nat) : List V → Prop
  | [] => True
  | v :: vs => (∃ y, w.cell? ⟨b, o, none⟩ = some y ∧ I b o ∧ irep I w v y) ∧ icells I w b (o + 1) vs
end

def irepL (I : Nat → Nat → Prop) (w : World) : List V → List Value → Prop
  | [], ys => ys = []
  | v :: vs, ys => ∃ y ys', ys = y :: ys' ∧ irep I w v y ∧ irepL I w vs ys'

mutual
def rep (E : Env) (w : World) : V → Value → Prop
  | .lit v, x => x = v
  | .ptr l o, x => ∃ lc, E.loc l = some lc ∧ x = .pointer (some ⟨lc.blk, o, none⟩)
  | .rp l n sz i r, x => ∃ b o, x = .pointer (some ⟨b, o, none⟩) ∧ ∃ lc, E.loc l = some lc ∧ n ≤ lc.len ∧ (n = lc.len → o = i * sz + r ∧ ∃ cap, lc.row = .slice (some ⟨b, 0, none⟩) n cap)
  | .ip cs, x => ∃ b o, x = .pointer (some ⟨b, o, none⟩) ∧ icells E.imm w b o cs
  | .sref l n, x => x.oneCell' = true ∧ ∃ lc, E.loc l = some lc ∧ n ≤ lc.len ∧ (n = lc.len → x = lc.row)
  | .mref l, x => ∃ lc, E.loc l = some lc ∧ x = .map (some lc.blk)
  | .clo g first caps, x => ∃ fs cs : List Value, x = .func (.func g) fs.toArray cs.toArray ∧ repL E w first fs ∧ repL E w caps cs
  | .agg cs, x => ∃ ys : List Value, x = .agg ys.toArray ∧ repL E w cs ys
  | .tup cs, x => ∃ ys : List Value, x = .tuple ys.toArray ∧ repL E w cs ys
  | .sl sz rows, x => irep E.imm w (.sl sz rows) x
  | .own l n _, x => ∃ lc cap, E.loc l = some lc ∧ n ≤ cap ∧ x = .slice (some ⟨lc.blk, 0, none⟩) n cap
  | .dead, _ => True
def repL (E : Env) (w : World) : List V → List Value → Prop
  | [], ys => ys = []
  | v :: vs, ys => ∃ y ys', ys = y :: ys' ∧ rep E w v y ∧ repL E w vs ys'
end

/-! ### lasting -/
/-- The cells that are not to change are as they were. -/
def ImmKept (I I' : Nat → Nat → Prop) (w w' : World) : Prop := ∀ b o, I b o → I' b o ∧ w'.cell? ⟨b, o, none⟩ = w.cell? ⟨b, o, none⟩

mutual
theorem irep_mono {I I' : Nat → Nat → Prop} {w w' : World} (h : ImmKept I I' w w') : ∀ (v : V) (x : Value), irep I w v x → irep I' w' v x
  | .lit v, x, hx => by simpa only [irep] using hx
  | .sl sz rows, x, hx => by
    simp only [irep] at hx ⊢
    obtain ⟨a, cap, h1, h2, h3⟩ := hx
    refine ⟨a, cap, h1, h2, h3.imp id ?_⟩
    rintro ⟨b, o, h4, h5⟩
    exact ⟨b, o, h4, irows_mono h b o sz rows h5⟩
  | .ptr .., _, hx | .rp .., _, hx | .ip .., _, hx | .sref .., _, hx | .mref .., _, hx | .clo .., _, hx | .agg .., _, hx | .tup .., _, hx | .own .., _, hx | .dead, _, hx => by simp only [irep] at hx
theorem irows_mono {I I' : Nat → Nat → Prop} {w w' : World} (h : ImmKept I I' w w') (b o sz : Nat) : ∀ rows : List (List V), irows I w b o sz rows → irows I' w' b o sz rows
  | [], _ => by simp only [irows]
  | r :: rs, hx => by
    simp only [irows] at hx ⊢
    exact ⟨hx.1, icells_mono h b o r hx.2.1, irows_mono h b (o + sz) sz rs hx.2.2⟩
theorem icells_mono {I I' : Nat → Nat → Prop} {w w' : World} (h : ImmKept I I' w w') (b o : Nat) : ∀ vs : List V, icells I w b o vs → icells I' w' b o vs
  | [], _ => by simp only [icells]
  | v :: vs, hx => by
    simp only [icells] at hx ⊢
    obtain ⟨⟨y, h1, h2, h3⟩, h4⟩ := hx
    exact ⟨⟨y, (h b o h2).2.trans h1, (h b o h2).1, irep_mono h v y h3⟩, icells_mono h b (o + 1) vs h4⟩
end

theorem irepL_mono {I I' : Nat → Nat → Prop} {w w' : World} (h : ImmKept I I' w w') : ∀ (vs : List V) (xs : List Value), irepL I w vs xs → irepL I' w' vs xs
  | [], _, hx => by simpa only [irepL] using hx
  | v :: vs, _, hx => by
    simp only [irepL] at hx ⊢
    obtain ⟨y, ys, h1, h2, h3⟩ := hx
    exact ⟨y, ys, h1, irep_mono h v y h2, irepL_mono h vs ys h3⟩

/-- A named object's place lasts: its rows may have grown. -/
def LocKept (E E' : Env) : Prop := ∀ l lc, E.loc l = some lc → ∃ lc', E'.loc l = some lc' ∧ lc'.blk = lc.blk ∧ lc.len ≤ lc'.len ∧ (lc.len = lc'.len → lc'.row = lc.row)

theorem LocKept.refl (E : Env) : LocKept E E := fun l lc h => ⟨lc, h, rfl, Nat.le_refl _, fun _ => rfl⟩
theorem LocKept.trans {A B C : Env} (h : LocKept A B) (k : LocKept B C) : LocKept A C := fun l lc hl => by
  obtain ⟨lb, h1, h2, h3, h4⟩ := h l lc hl
  obtain ⟨lc', k1, k2, k3, k4⟩ := k l lb h1
  refine ⟨lc', k1, k2.trans h2, Nat.le_trans h3 k3, fun e => ?_⟩
  have e1 : lc.len = lb.len := by omega
  have e2 : lb.len = lc'.len := by omega
  exact (k4 e2).trans (h4 e1)

mutual
theorem rep_mono {E E' : Env} {w w' : World} (h : ImmKept E.imm E'.imm w w') (k : LocKept E E') : ∀ (v : V) (x : Value), rep E w v x → rep E' w' v x
  | .lit v, x, hx => by simpa only [rep] using hx
  | .ptr l o, x, hx => by
    simp only [rep] at hx ⊢
    obtain ⟨lc, h1, h2⟩ := hx
    obtain ⟨lc', k1, k2, _, _⟩ := k l lc h1
    exact ⟨lc', k1, by rw [k2]; exact h2⟩
  | .rp l n sz i r, x, hx => by
    simp only [rep] at hx ⊢
    obtain ⟨b, o, h0, lc, h1, h2, h3⟩ := hx
    obtain ⟨lc', k1, k2, k3, k4⟩ := k l lc h1
    refine ⟨b, o, h0, lc', k1, by omega, fun e => ?_⟩
    have e1 : lc.len = lc'.len := by omega
    obtain ⟨h5, cap, h4⟩ := h3 (by omega)
    exact ⟨h5, cap, (k4 e1).trans h4⟩
  | .ip cs, x, hx => by
    simp only [rep] at hx ⊢
    obtain ⟨b, o, h1, h2⟩ := hx
    exact ⟨b, o, h1, icells_mono h b o cs h2⟩
  | .sref l n, x, hx => by
    simp only [rep] at hx ⊢
    obtain ⟨h0, lc, h1, h2, h3⟩ := hx
    obtain ⟨lc', k1, k2, k3, k4⟩ := k l lc h1
    refine ⟨h0, lc', k1, by omega, fun e => ?_⟩
    have e1 : lc.len = lc'.len := by omega
    exact (h3 (by omega)).trans (k4 e1).symm
  | .mref l, x, hx => by
    simp only [rep] at hx ⊢
    obtain ⟨lc, h1, h2⟩ := hx
    obtain ⟨lc', k1, k2, _, _⟩ := k l lc h1
    exact ⟨lc', k1, by rw [k2]; exact h2⟩
  | .clo g first caps, x, hx => by
    simp only [rep] at hx ⊢
    obtain ⟨fs, cs, h1, h2, h3⟩ := hx
    exact ⟨fs, cs, h1, repL_mono h k first fs h2, repL_mono h k caps cs h3⟩
  | .agg cs, x, hx => by
    simp only [rep] at hx ⊢
    obtain ⟨ys, h1, h2⟩ := hx
    exact ⟨ys, h1, repL_mono h k cs ys h2⟩
  | .tup cs, x, hx => by
    simp only [rep] at hx ⊢
    obtain ⟨ys, h1, h2⟩ := hx
    exact ⟨ys, h1, repL_mono h k cs ys h2⟩
  | .sl sz rows, x, hx => by
    simp only [rep] at hx ⊢
    exact irep_mono h _ x hx
  | .own l n _, x, hx => by
    simp only [rep] at hx ⊢
    obtain ⟨lc, cap, h1, h0, h2⟩ := hx
    obtain ⟨lc', k1, k2, _, _⟩ := k l lc h1
    exact ⟨lc', cap, k1, h0, by rw [k2]; exact h2⟩
  | .dead, _, _ => by simp only [rep]
theorem repL_mono {E E' : Env} {w w' : World} (h : ImmKept E.imm E'.imm w w') (k : LocKept E E') : ∀ (vs : List V) (xs : List Value), repL E w vs xs → repL E' w' vs xs
  | [], _, hx => by simpa only [repL] using hx
  | v :: vs, _, hx => by
    simp only [repL] at hx ⊢
    obtain ⟨y, ys, h1, h2, h3⟩ := hx
    exact ⟨y, ys, h1, rep_mono h k v y h2, repL_mono h k vs ys h3⟩
end

/-- What can't be changed may be told without names. -/
theorem irep_rep {E : Env} {w : World} {v : V} {x : Value} (h : irep E.imm w v x) : rep E w v x := by
  cases v <;> simp only [irep] at h
  · simp only [rep]; exact h.1
  · simp only [rep, irep]; exact h

theorem repL_length {E : Env} {w : World} : ∀ {vs : List V} {xs : List Value}, repL E w vs xs → vs.length = xs.length
  | [], _, h => by simp only [repL] at h; simp [h]
  | v :: vs, _, h => by
    simp only [repL] at h
    obtain ⟨y, ys, rfl, _, h2⟩ := h
    simp [repL_length h2]
theorem repL_get {E : Env} {w : World} : ∀ {vs : List V} {xs : List Value} (i : Nat) (v : V), repL E w vs xs → vs[i]? = some v → ∃ x, xs[i]? = some x ∧ rep E w v x
  | [], _, i, v, _, hv => by simp at hv
  | u :: vs, _, i, v, h, hv => by
    simp only [repL] at h
    obtain ⟨y, ys, rfl, h1, h2⟩ := h
    cases i with
    | zero => simp at hv; subst hv; exact ⟨y, by simp, h1⟩
    | succ i => simpa using repL_get i v h2 (by simpa using hv)
theorem repL_append {E : Env} {w : World} : ∀ {vs us : List V} {xs ys : List Value}, repL E w vs xs → repL E w us ys → repL E w (vs ++ us) (xs ++ ys)
  | [], _, _, _, h, k => by simp only [repL] at h; subst h; simpa using k
  | v :: vs, us, _, ys, h, k => by
    simp only [repL] at h
    obtain ⟨y, ys', rfl, h1, h2⟩ := h
    simp only [List.cons_append, repL]
    exact ⟨y, ys' ++ ys, rfl, h1, repL_append h2 k⟩
theorem repL_drop {E : Env} {w : World} : ∀ {vs : List V} {xs : List Value} (n : Nat), repL E w vs xs → repL E w (vs.drop n) (xs.drop n)
  | vs, xs, 0, h => by simpa using h
  | [], _, n + 1, h => by simp only [repL] at h; subst h; simp [repL]
  | v :: vs, _, n + 1, h => by
    simp only [repL] at h
    obtain ⟨y, ys', rfl, h1, h2⟩ := h
    simpa using repL_drop n h2
theorem repL_take {E : Env} {w : World} : ∀ {vs : List V} {xs : List Value} (n : Nat), repL E w vs xs → repL E w (vs.take n) (xs.take n)
  | vs, xs, 0, h => by simp [repL]
  | [], _, n + 1, h => by simp only [repL] at h; subst h; simp [repL]
  | v :: vs, _, n + 1, h => by
    simp only [repL] at h
    obtain ⟨y, ys', rfl, h1, h2⟩ := h
    simp only [List.take_succ_cons, repL]
    exact ⟨y, ys'.take n, rfl, h1, repL_take n h2⟩

theorem irepL_repL {E : Env} {w : World} : ∀ {vs : List V} {xs : List Value}, irepL E.imm w vs xs → repL E w vs xs
  | [], _, h => by simp only [irepL] at h; simpa only [repL] using h
  | v :: vs, _, h => by
    simp only [irepL] at h
    obtain ⟨y, ys, h1, h2, h3⟩ := h
    simp only [repL]
    exact ⟨y, ys, h1, irep_rep h2, irepL_repL h3⟩
theorem irepL_length {I : Nat → Nat → Prop} {w : World} : ∀ {vs : List V} {xs : List Value}, irepL I w vs xs → vs.length = xs.length
  | [], _, h => by simp only [irepL] at h; simp [h]
  | v :: vs, _, h => by
    simp only [irepL] at h
    obtain ⟨y, ys, rfl, _, h2⟩ := h
    simp [irepL_length h2]
theorem irepL_append {I : Nat → Nat → Prop} {w : World} : ∀ {vs us : List V} {xs ys : List Value}, irepL I w vs xs → irepL I w us ys → irepL I w (vs ++ us) (xs ++ ys)
  | [], _, _, _, h, k => by simp only [irepL] at h; subst h; simpa using k
  | v :: vs, us, _, ys, h, k => by
    simp only [irepL] at h
    obtain ⟨y, ys', rfl, h1, h2⟩ := h
    simp only [List.cons_append, irepL]
    exact ⟨y, ys' ++ ys, rfl, h1, irepL_append h2 k⟩
theorem irepL_drop {I : Nat → Nat → Prop} {w : World} : ∀ {vs : List V} {xs : List Value} (n : Nat), irepL I w vs xs → irepL I w (vs.drop n) (xs.drop n)
  | vs, xs, 0, h => by simpa using h
  | [], _, n + 1, h => by simp only [irepL] at h; subst h; simp [irepL]
  | v :: vs, _, n + 1, h => by
    simp only [irepL] at h
    obtain ⟨y, ys', rfl, h1, h2⟩ := h
    simpa using irepL_drop n h2
theorem irepL_take {I : Nat → Nat → Prop} {w : World} : ∀ {vs : List V} {xs : List Value} (n : Nat), irepL I w vs xs → irepL I w (vs.take n) (xs.take n)
  | vs, xs, 0, h => by simp [irepL]
  | [], _, n + 1, h => by simp only [irepL] at h; subst h; simp [irepL]
  | v :: vs, _, n + 1, h => by
    simp only [irepL] at h
    obtain ⟨y, ys', rfl, h1, h2⟩ := h
    simp only [List.take_succ_cons, irepL]
    exact ⟨y, ys'.take n, rfl, h1, irepL_take n h2⟩
theorem irepL_one {I : Nat → Nat → Prop} {w : World} : ∀ {vs : List V} {xs : List Value}, irepL I w vs xs → ∀ x ∈ xs, x.oneCell' = true
  | [], _, h, x, hx => by simp only [irepL] at h; subst h; simp at hx
  | v :: vs, _, h, x, hx => by
    simp only [irepL] at h
    obtain ⟨y, ys, rfl, h1, h2⟩ := h
    rcases List.mem_cons.1 hx with rfl | hx
    · cases v <;> simp only [irep] at h1
      · obtain ⟨rfl, h1⟩ := h1; exact h1
      · obtain ⟨a, cap, rfl, _⟩ := h1; rfl
    · exact irepL_one h2 x hx

theorem icells_length_get {I : Nat → Nat → Prop} {w : World} : ∀ {cs : List V} {b o : Nat} (j : Nat) (v : V), icells I w b o cs → cs[j]? = some v →
    ∃ y, w.cell? ⟨b, o + j, none⟩ = some y ∧ I b (o + j) ∧ irep I w v y
  | [], _, _, j, v, _, hv => by simp at hv
  | u :: cs, b, o, j, v, h, hv => by
    simp only [icells] at h
    cases j with
    | zero => simp at hv; subst hv; simpa using h.1
    | succ j =>
      have := icells_length_get j v h.2 (by simpa using hv)
      simpa [Nat.add_assoc, Nat.add_comm 1 j] using this
theorem icells_drop {I : Nat → Nat → Prop} {w : World} : ∀ {cs : List V} {b o : Nat} (n : Nat), icells I w b o cs → n ≤ cs.length → icells I w b (o + n) (cs.drop n)
  | cs, b, o, 0, h, _ => by simpa using h
  | [], _, _, n + 1, _, hn => by simp at hn
  | u :: cs, b, o, n + 1, h, hn => by
    simp only [icells] at h
    have := icells_drop n h.2 (by simpa using hn)
    simpa [Nat.add_assoc, Nat.add_comm 1 n] using this
/-- The cells read as a list of values. -/
theorem icells_values {I : Nat → Nat → Prop} {w : World} : ∀ {cs : List V} {b o : Nat}, icells I w b o cs →
    ∃ ys : List Value, irepL I w cs ys ∧ ∀ j y, ys[j]? = some y → w.cell? ⟨b, o + j, none⟩ = some y
  | [], b, o, _ => ⟨[], by simp only [irepL], by simp⟩
  | u :: cs, b, o, h => by
    simp only [icells] at h
    obtain ⟨⟨y, h1, _, h2⟩, h3⟩ := h
    obtain ⟨ys, k1, k2⟩ := icells_values h3
    refine ⟨y :: ys, by simp only [irepL]; exact ⟨y, ys, rfl, h2, k1⟩, ?_⟩
    intro j z hz
    cases j with
    | zero => simp at hz; subst hz; simpa using h1
    | succ j =>
      have := k2 j z (by simpa using hz)
      simpa [Nat.add_assoc, Nat.add_comm 1 j] using this
theorem icells_take {I : Nat → Nat → Prop} {w : World} : ∀ {cs : List V} {b o : Nat} (n : Nat), icells I w b o cs → icells I w b o (cs.take n)
  | cs, b, o, 0, h => by simp [icells]
  | [], _, _, n + 1, _ => by simp [icells]
  | u :: cs, b, o, n + 1, h => by
    simp only [icells] at h
    simp only [List.take_succ_cons, icells]
    exact ⟨h.1, icells_take n h.2⟩
theorem irows_get {I : Nat → Nat → Prop} {w : World} : ∀ {rows : List (List V)} {b o sz : Nat} (j : Nat) (r : List V), irows I w b o sz rows → rows[j]? = some r →
    r.length = sz ∧ icells I w b (o + j * sz) r
  | [], _, _, _, j, r, _, hv => by simp at hv
  | u :: rs, b, o, sz, j, r, h, hv => by
    simp only [irows] at h
    cases j with
    | zero => simp at hv; subst hv; simpa using ⟨h.1, h.2.1⟩
    | succ j =>
      have := irows_get j r h.2.2 (by simpa using hv)
      rwa [Nat.add_assoc, show sz + j * sz = (j + 1) * sz from by rw [Nat.add_mul, Nat.one_mul, Nat.add_comm]] at this
theorem irows_drop {I : Nat → Nat → Prop} {w : World} : ∀ {rows : List (List V)} {b o sz : Nat} (n : Nat), irows I w b o sz rows → irows I w b (o + n * sz) sz (rows.drop n)
  | rows, b, o, sz, 0, h => by simpa using h
  | [], _, _, _, n + 1, _ => by simp [irows]
  | u :: rs, b, o, sz, n + 1, h => by
    simp only [irows] at h
    have := irows_drop n h.2.2
    rw [Nat.add_assoc, show sz + n * sz = (n + 1) * sz from by rw [Nat.add_mul, Nat.one_mul, Nat.add_comm]] at this
    simpa using this
theorem irows_take {I : Nat → Nat → Prop} {w : World} : ∀ {rows : List (List V)} {b o sz : Nat} (n : Nat), irows I w b o sz rows → irows I w b o sz (rows.take n)
  | rows, b, o, sz, 0, h => by simp [irows]
  | [], _, _, _, n + 1, _ => by simp [irows]
  | u :: rs, b, o, sz, n + 1, h => by
    simp only [irows] at h
    simp only [List.take_succ_cons, irows]
    exact ⟨h.1, h.2.1, irows_take n h.2.2⟩
theorem icells_append {I : Nat → Nat → Prop} {w : World} : ∀ {cs ds : List V} {b o : Nat}, icells I w b o cs → icells I w b (o + cs.length) ds → icells I w b o (cs ++ ds)
  | [], ds, b, o, _, k => by simpa using k
  | u :: cs, ds, b, o, h, k => by
    simp only [icells] at h
    simp only [List.cons_append, icells]
    refine ⟨h.1, icells_append h.2 ?_⟩
    simpa [Nat.add_assoc, Nat.add_comm 1] using k
theorem irows_flat {I : Nat → Nat → Prop} {w : World} : ∀ {rows : List (List V)} {b o sz : Nat}, irows I w b o sz rows → icells I w b o rows.flatten
  | [], _, _, _, _ => by simp [icells]
  | u :: rs, b, o, sz, h => by
    simp only [irows] at h
    simp only [List.flatten_cons]
    refine icells_append h.2.1 ?_
    rw [h.1]
    exact irows_flat h.2.2
theorem irows_len {I : Nat → Nat → Prop} {w : World} : ∀ {rows : List (List V)} {b o sz : Nat}, irows I w b o sz rows → ∀ r ∈ rows, r.length = sz
  | [], _, _, _, _, r, hr => by simp at hr
  | u :: rs, b, o, sz, h, r, hr => by
    simp only [irows] at h
    rcases List.mem_cons.1 hr with rfl | hr
    · exact h.1
    · exact irows_len h.2.2 r hr
theorem flatten_len {sz : Nat} : ∀ {rows : List (List V)}, (∀ r ∈ rows, r.length = sz) → rows.flatten.length = rows.length * sz
  | [], _ => by simp
  | u :: rs, h => by
    have h1 := h u (by simp)
    have h2 := flatten_len (sz := sz) (rows := rs) (fun r hr => h r (List.mem_cons_of_mem _ hr))
    simp only [List.flatten_cons, List.length_append, List.length_cons, h1, h2, Nat.add_mul]
    omega
/-- Cells that hold a list of values, each of which may not change, are told as rows. -/
theorem icells_of {I : Nat → Nat → Prop} {w : World} : ∀ {cs : List V} {ys : List Value} {b o : Nat}, irepL I w cs ys → (∀ j y, ys[j]? = some y → w.cell? ⟨b, o + j, none⟩ = some y) →
    (∀ j, j < ys.length → I b (o + j)) → icells I w b o cs
  | [], ys, b, o, _, _, _ => by simp only [icells]
  | v :: vs, ys, b, o, h, hc, hi => by
    simp only [irepL] at h
    obtain ⟨y, ys', rfl, h1, h2⟩ := h
    simp only [icells]
    refine ⟨⟨y, by simpa using hc 0 y (by simp), by simpa using hi 0 (by simp), h1⟩, icells_of h2 (fun j z hz => ?_) (fun j hj => ?_)⟩
    · have := hc (j + 1) z (by simpa using hz); simpa [Nat.add_assoc, Nat.add_comm 1 j] using this
    · have := hi (j + 1) (by simpa using hj); simpa [Nat.add_assoc, Nat.add_comm 1 j] using this
theorem irows_of {I : Nat → Nat → Prop} {w : World} {sz : Nat} : ∀ {rows : List (List V)} {b o : Nat}, (∀ r ∈ rows, r.length = sz) → icells I w b o rows.flatten → irows I w b o sz rows
  | [], b, o, _, _ => by simp only [irows]
  | r :: rs, b, o, hl, h => by
    have hr := hl r (by simp)
    simp only [List.flatten_cons] at h
    simp only [irows]
    refine ⟨hr, ?_, ?_⟩
    · have := icells_take r.length h
      rwa [List.take_left] at this
    · have := icells_drop r.length h (by simp)
      rw [List.drop_left, hr] at this
      exact irows_of (fun r hr => hl r (List.mem_cons_of_mem _ hr)) this

end Go.Proofs.Fw
