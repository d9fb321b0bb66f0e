/- All operations that only tell a value. -/
import Derived.Test.YtnjcokelpolpcaaGreatFwC
set_option linter.unusedVariables false
set_option linter.unusedSimpArgs false
set_option linter.unusedSectionVars false
set_option linter.unnecessarySimpa false
namespace Go.Proofs.Fw
open Go Go.RowKit

/-! ### building a struct -/
def vcells : V → Option (List V)
  | .agg cs => some cs
  | v => bif one v then some [v] else none
def splice {α : Type} (cells : List α) (off : Nat) (cs : List α) : List α := cells.take off ++ cs ++ cells.drop (off + cs.length)

theorem one_cells {x : Value} (h : x.oneCell' = true) : x.cells = #[x] := by
  cases x <;> first | rfl | simp [Value.oneCell'] at h
theorem one_rep {E : Env} {w : World} {v : V} {x : Value} (h : one v = true) (hx : rep E w v x) : x.oneCell' = true := by
  cases v with
  | lit u => simp only [rep] at hx; subst hx; exact h
  | ptr l o => simp only [rep] at hx; obtain ⟨lc, _, rfl⟩ := hx; rfl
  | rp l n sz i r => simp only [rep] at hx; obtain ⟨b, o, rfl, _⟩ := hx; rfl
  | ip cs => simp only [rep] at hx; obtain ⟨b, o, rfl, _⟩ := hx; rfl
  | sref l n => simp only [rep] at hx; exact hx.1
  | mref l => simp only [rep] at hx; obtain ⟨lc, _, rfl⟩ := hx; rfl
  | clo g first caps => simp only [rep] at hx; obtain ⟨fs, cs, rfl, _⟩ := hx; rfl
  | sl sz rows => simp only [rep, irep] at hx; obtain ⟨a, cap, rfl, _⟩ := hx; rfl
  | agg _ => simp [one] at h
  | tup _ => simp [one] at h
  | own _ _ _ => simp [one] at h
  | dead => simp [one] at h
theorem vcells_rep {E : Env} {w : World} {v : V} {cs : List V} {x : Value} (h : vcells v = some cs) (hx : rep E w v x) : ∃ ys : List Value, x.cells = ys.toArray ∧ repL E w cs ys := by
  by_cases hv : ∃ ds, v = .agg ds
  · obtain ⟨ds, rfl⟩ := hv
    simp only [vcells, Option.some.injEq] at h; subst h
    simp only [rep] at hx
    obtain ⟨ys, rfl, h1⟩ := hx
    exact ⟨ys, rfl, h1⟩
  · have h' : (bif one v then some [v] else none) = some cs := by
      cases v <;> first | exact h | exact absurd ⟨_, rfl⟩ hv
    cases ho : one v with
    | false => simp [ho] at h'
    | true =>
      simp only [ho, cond_true, Option.some.injEq] at h'; subst h'
      exact ⟨[x], one_cells (one_rep ho hx), by simp only [repL]; exact ⟨x, [], rfl, hx, rfl⟩⟩

/-- A part laid into a row of cells, one cell after the other. -/
theorem foldl_set (vs : List Value) : ∀ (k off : Nat) (cells : List Value), off + k + vs.length ≤ cells.length →
    ((vs.zipIdx k).foldl (fun (cs : Array Value) (p : Value × Nat) => cs.setIfInBounds (off + p.2) p.1) cells.toArray) = (cells.take (off + k) ++ vs ++ cells.drop (off + k + vs.length)).toArray := by
  induction vs with
  | nil => intro k off cells h; simp
  | cons v vs ih =>
    intro k off cells h
    simp only [List.zipIdx_cons, List.foldl_cons, List.length_cons] at h ⊢
    have hlt : off + k < cells.length := by omega
    have e1 : cells.toArray.setIfInBounds (off + k) v = (cells.set (off + k) v).toArray := by simp
    rw [e1, ih (k + 1) off (cells.set (off + k) v) (by simp; omega)]
    congr 1
    have e2 : (cells.set (off + k) v).take (off + (k + 1)) = cells.take (off + k) ++ [v] := by
      rw [show off + (k + 1) = off + k + 1 from by omega, List.take_succ_eq_append_getElem (by simpa using hlt)]
      simp [List.take_set_of_le]
    have e3 : (cells.set (off + k) v).drop (off + (k + 1) + vs.length) = cells.drop (off + k + (vs.length + 1)) := by
      rw [List.drop_set_of_lt (by omega)]
      congr 1
      omega
    rw [e2, e3]
    simp

def afill (place : Nat → Option (Nat × Nat)) (cells : List V) : List (Nat × V) → Option (List V)
  | [] => some cells
  | (i, v) :: rest => match place i, vcells v with
    | some (off, size), some cs => bif Nat.beq cs.length size && Nat.ble (off + cs.length) cells.length then afill place (splice cells off cs) rest else none
    | _, _ => none

theorem afill_run {E : Env} {w : World} (place : Nat → Option (Nat × Nat)) : ∀ (parts : List (Nat × V)) (vals : List (Nat × Value)) (cells : List V) (ys : List Value) (r : List V),
    afill place cells parts = some r → repL E w cells ys → parts.length = vals.length → (∀ (j : Nat) (i : Nat) (v : V) (i' : Nat) (x : Value), parts[j]? = some (i, v) → vals[j]? = some (i', x) → i = i' ∧ rep E w v x) →
    ∃ zs : List Value, Instr.fill place ys.toArray vals = some zs.toArray ∧ repL E w r zs
  | [], [], cells, ys, r, h, hc, _, _ => by simp only [afill, Option.some.injEq] at h; subst h; exact ⟨ys, rfl, hc⟩
  | [], _ :: _, _, _, _, _, _, hl, _ => by simp at hl
  | _ :: _, [], _, _, _, _, _, hl, _ => by simp at hl
  | (i, v) :: rest, (i', x) :: vals, cells, ys, r, h, hc, hl, hp => by
    obtain ⟨rfl, hx⟩ := hp 0 i v i' x rfl rfl
    simp only [afill] at h
    cases h1 : place i with
    | none => simp [h1] at h
    | some q =>
      obtain ⟨off, size⟩ := q
      cases h2 : vcells v with
      | none => simp [h1, h2] at h
      | some cs =>
        simp only [h1, h2] at h
        cases h3 : Nat.beq cs.length size && Nat.ble (off + cs.length) cells.length with
        | false => simp [h3] at h
        | true =>
          simp only [h3, cond_true] at h
          obtain ⟨us, k1, k2⟩ := vcells_rep h2 hx
          have hlen := repL_length k2
          have hlen2 := repL_length hc
          rw [Bool.and_eq_true] at h3
          have e1 : cs.length = size := Nat.eq_of_beq_eq_true h3.1
          have e2 : off + cs.length ≤ cells.length := Nat.le_of_ble_eq_true h3.2
          have hsp : repL E w (splice cells off cs) (splice ys off us) := by
            unfold splice
            rw [hlen]
            exact repL_append (repL_append (repL_take off hc) k2) (repL_drop _ hc)
          obtain ⟨zs, g1, g2⟩ := afill_run place rest vals (splice cells off cs) (splice ys off us) r h hsp (by simpa using hl) (fun j a b c d hj hk => hp (j + 1) a b c d hj hk)
          refine ⟨zs, ?_, g2⟩
          simp only [Instr.fill, h1, k1]
          have c1 : us.toArray.size = size := by simp; omega
          have c2 : ¬ (off + us.toArray.size > ys.toArray.size) := by simp; omega
          have c3 : ¬ (us.toArray.size ≠ size) := by simp [c1]
          rw [if_neg (by simp only [Bool.or_eq_true, decide_eq_true_eq, not_or]; exact ⟨c3, c2⟩)]
          have hf := foldl_set us 0 off ys (by omega)
          simp only [Nat.add_zero] at hf
          have : (us.toArray.zipIdx.foldl (fun (cs : Array Value) (p : Value × Nat) => cs.setIfInBounds (off + p.2) p.1) ys.toArray) = (splice ys off us).toArray := by
            rw [← Array.foldl_toList]
            simpa [splice] using hf
          rw [← g1]
          congr 1

/-! ### the rest -/
def byteAt (s : ByteArray) (i : Int) : Int := match s.data[i.toNat]? with
  | some b => b.toNat
  | none => 0

def aconv (P : Program) (src dst : TypeId) (x : V) : AR := match P.underlying src, P.underlying dst, x with
  | some _, some (.int k), .lit (.int _ n) => some (none, .lit (.int k (k.wrap n)))
  | some _, some .string, .lit (.string s) => some (none, .lit (.string s))
  | _, _, _ => none
theorem aconv_run {P : Program} {src dst : TypeId} {x : V} {vc : VC} {v : V} (h : aconv P src dst x = some (vc, v)) {E : Env} {w : World} {a : Value} (ha : rep E w x a) :
    ∃ z, (convert src dst a).run P w = .ok z w ∧ rep E w v z := by
  unfold aconv at h
  split at h
  · rename_i d k k0 n hs hd
    simp only [Option.some.injEq, Prod.mk.injEq] at h
    obtain ⟨_, rfl⟩ := h
    simp only [rep] at ha; subst ha
    refine ⟨_, ?_, rep_lit⟩
    simp [convert, run_underlying hs, run_underlying hd, Conv.intToInt]
  · rename_i d s hs hd
    simp only [Option.some.injEq, Prod.mk.injEq] at h
    obtain ⟨_, rfl⟩ := h
    simp only [rep] at ha; subst ha
    refine ⟨_, ?_, rep_lit⟩
    simp [convert, run_underlying hs, run_underlying hd]
  · simp at h

def alen (P : Program) (st : St) (t : TypeId) (x : V) : AR := match P.underlying t, x with
  | some .string, .lit (.string s) => some (none, .lit (.int .i64 s.size))
  | some (.slice _), .lit (.slice _ n _) => some (none, .lit (.int .i64 n))
  | some (.slice _), .sl _ rows => some (none, .lit (.int .i64 rows.length))
  | some (.slice _), .sref l n => match st.ob l with
    | some (.row _ _ rows _) => some (some (n = rows.length), .lit (.int .i64 n))
    | _ => none
  | some (.map _ _), .mref l => match st.ob l with
    | some (.map ents) => some (none, .lit (.int .i64 ents.length))
    | _ => none
  | _, _ => none

theorem entRep_length {E : Env} {w : World} : ∀ {r : List (V × V)} {es : List MapEntry}, entRep E w r es → r.length = es.length
  | [], _, h => by simp only [entRep] at h; simp [h]
  | (a, b) :: r, _, h => by
    simp only [entRep] at h
    obtain ⟨e, es, rfl, _, _, h2⟩ := h
    simp [entRep_length h2]

/-- A list's own row, read: its value is the row's. -/
theorem sref_val {E : Env} {st : St} {a : Act} {w : World} (hg : Good E st a w) {l n e sz : Nat} {rows : List (List V)} {wr : Bool} {x : Value} (hx : rep E w (.sref l n) x) (ho : st.ob l = some (.row e sz rows wr)) (hn : n = rows.length) :
    ∃ lc, E.loc l = some lc ∧ okOb E w lc (.row e sz rows wr) ∧ x = lc.row ∧ lc.len = n := by
  simp only [rep] at hx
  obtain ⟨_, lc, h1, h2, h3⟩ := hx
  have hok := hg.objs.ok l _ lc ho h1
  have hl : lc.len = rows.length := hok.1
  exact ⟨lc, h1, hok, h3 (by omega), by omega⟩

theorem alen_run {P : Program} {st : St} {t : TypeId} {x : V} {vc : VC} {v : V} (h : alen P st t x = some (vc, v)) (hv : holds vc) {E : Env} {a : Act} {w : World} (hg : Good E st a w) {y : Value} (hx : rep E w x y) (ty : TypeId) :
    ∃ z, (Builtin.len_ #[t] ty #[y]).run P w = .ok z w ∧ rep E w v z := by
  unfold alen at h
  split at h
  · rename_i s hu
    simp only [Option.some.injEq, Prod.mk.injEq] at h; obtain ⟨_, rfl⟩ := h
    simp only [rep] at hx; subst hx
    exact ⟨_, by simp [Builtin.len_, run_underlying hu, goInt], rep_lit⟩
  · rename_i e b n c hu
    simp only [Option.some.injEq, Prod.mk.injEq] at h; obtain ⟨_, rfl⟩ := h
    simp only [rep] at hx; subst hx
    exact ⟨_, by simp [Builtin.len_, run_underlying hu, goInt], rep_lit⟩
  · rename_i e sz rows hu
    simp only [Option.some.injEq, Prod.mk.injEq] at h; obtain ⟨_, rfl⟩ := h
    simp only [rep, irep] at hx
    obtain ⟨b, cap, rfl, _⟩ := hx
    exact ⟨_, by simp [Builtin.len_, run_underlying hu, goInt], rep_lit⟩
  · rename_i e l n hu
    split at h
    · rename_i e' sz rows wr ho
      simp only [Option.some.injEq, Prod.mk.injEq] at h; obtain ⟨rfl, rfl⟩ := h
      obtain ⟨lc, h1, h2, rfl, h3⟩ := sref_val hg hx ho hv
      obtain ⟨_, _, _, xs, h4, _⟩ := h2
      rcases h4.2 with ⟨h5, h6⟩ | ⟨g, cap, cur, h5, _⟩
      · rw [h5]; rw [hv, h6]; exact ⟨_, by simp [Builtin.len_, run_underlying hu, goInt], rep_lit⟩
      · rw [h5]; rw [hv]; exact ⟨_, by simp [Builtin.len_, run_underlying hu, goInt], rep_lit⟩
    · simp at h
  · rename_i k e l hu
    split at h
    · rename_i ents ho
      simp only [Option.some.injEq, Prod.mk.injEq] at h; obtain ⟨_, rfl⟩ := h
      simp only [rep] at hx
      obtain ⟨lc, h1, rfl⟩ := hx
      obtain ⟨es, clock, h2, h3, _⟩ := hg.objs.ok l _ lc ho h1
      refine ⟨_, ?_, rep_lit⟩
      have := entRep_length h3
      simp [Builtin.len_, run_underlying hu, goInt, getObj, Sem.run, h2, this]
    · simp at h
  · simp at h

end Go.Proofs.Fw
