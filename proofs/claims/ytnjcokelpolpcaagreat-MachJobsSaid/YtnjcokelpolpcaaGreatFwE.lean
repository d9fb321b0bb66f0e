/- Operations that only tell a value, all in one. -/
import Derived.Test.YtnjcokelpolpcaaGreatFwD
set_option linter.unusedVariables false
set_option linter.unusedSimpArgs false
set_option linter.unusedSectionVars false
set_option linter.unnecessarySimpa false
namespace Go.Proofs.Fw
open Go Go.RowKit

/-- A bound of a cut: what it is, and what it owes. -/
def abound (st : St) (x : Option Operand) (dflt : Int) : Option Int := match x with
  | none => some dflt
  | some o => match ev st o with
    | .lit (.int _ n) => some n
    | _ => none

def aslice (P : Program) (st : St) (t : TypeId) (x : V) (lo hi mx : Option Operand) : AR := match P.underlying t, x with
  | some .string, .lit (.string s) => match mx, abound st lo 0, abound st hi s.size with
    | none, some l, some h => some (some (0 ≤ l ∧ l ≤ h ∧ h ≤ s.size), .lit (.string (s.extract l.toNat h.toNat)))
    | _, _, _ => none
  | some (.slice e), .sl sz rows => match tsize P e, mx, abound st lo 0, abound st hi rows.length with
    | some n, none, some l, some h => bif Nat.beq n sz then some (some (0 ≤ l ∧ l ≤ h ∧ h ≤ rows.length), .sl sz ((rows.take h.toNat).drop l.toNat)) else none
    | some n, some m, some l, some h => match ev st m, hi with
      | .lit (.int _ q), some _ => bif Nat.beq n sz then some (some (0 ≤ l ∧ l ≤ h ∧ h ≤ q ∧ q ≤ rows.length), .sl sz ((rows.take h.toNat).drop l.toNat)) else none
      | _, _ => none
    | _, _, _, _ => none
  | _, _ => none

theorem abound_run {P : Program} {E : Env} {st : St} {a : Act} {w : World} (hg : Good E st a w) {o : Operand} {d n : Int} (h : abound st (some o) d = some n) {y : Nat} (h0 : 0 ≤ n) (h1 : n ≤ y) (c : BoundsCode) :
    (Instr.sliceBound (a.eval o) y c).run P w = .ok n.toNat w := by
  have hx := ev_rep hg o
  simp only [abound] at h
  split at h
  · rename_i k m hq
    simp only [Option.some.injEq] at h; subst h
    rw [hq] at hx
    simp only [rep] at hx
    rw [hx]
    simp [Instr.sliceBound, asIntOf, h0, h1]
  · simp at h

theorem aslice_run {P : Program} {st : St} {t : TypeId} {x : V} {lo hi mx : Option Operand} {vc : VC} {v : V} (h : aslice P st t x lo hi mx = some (vc, v)) (hv : holds vc)
    {E : Env} {a : Act} {w : World} (hg : Good E st a w) {y : Value} (hx : rep E w x y) :
    ∃ z, (Instr.sliceAt t y (lo.map a.eval) (hi.map a.eval) (mx.map a.eval)).run P w = .ok z w ∧ rep E w v z := by
  unfold aslice at h
  split at h
  · rename_i s hu
    simp only [rep] at hx; subst hx
    split at h
    · rename_i l hh hl hhh
      simp only [Option.some.injEq, Prod.mk.injEq] at h; obtain ⟨rfl, rfl⟩ := h
      obtain ⟨h0, h1, h2⟩ := hv
      refine ⟨_, ?_, rep_lit⟩
      have b1 : ∀ k : Nat, hh ≤ k → ((match hi.map a.eval, (none : Option Value) with
          | some v, some _ => Instr.sliceBound v k .slice3B
          | some v, none => Instr.sliceBound v k (if false = true then .sliceAcap else .sliceAlen)
          | none, none => pure s.size
          | none, some _ => stuck "Slice: max without high" : Sem Nat)).run P w = .ok hh.toNat w := by
        intro k hk
        cases hi with
        | none => simp [abound] at hhh; subst hhh; simp
        | some o => simpa using abound_run (P := P) hg hhh (by omega) hk _
      have b2 : ((match lo.map a.eval with
          | some v => Instr.sliceBound v hh.toNat .sliceB
          | none => pure 0 : Sem Nat)).run P w = .ok l.toNat w := by
        cases lo with
        | none => simp [abound] at hl; subst hl; simp
        | some o => simpa using abound_run (P := P) hg hl h0 (by omega) _
      have b1' := b1 s.size h2
      cases lo <;> cases hi <;> simp_all [Instr.sliceAt, Instr.slice, run_underlying hu, Instr.sliceBounds]
    · simp at h
  · rename_i e sz rows hu
    simp only [rep, irep] at hx
    obtain ⟨ad, cap, rfl, ⟨hcap, hcm⟩, hrows⟩ := hx
    split at h
    · rename_i n l hh hn hl hhh
      cases hnb : Nat.beq n sz with
      | false => simp [hnb] at h
      | true =>
      have hns := Nat.eq_of_beq_eq_true hnb; subst hns
      simp only [hnb, cond_true, Option.some.injEq, Prod.mk.injEq] at h; obtain ⟨rfl, rfl⟩ := h
      obtain ⟨h0, h1, h2⟩ := hv
      refine ⟨.slice (if cap = l.toNat then ad else ad.map (·.add (l.toNat * n))) (hh.toNat - l.toNat) (cap - l.toNat), ?_, ?_⟩
      · have b2 : ∀ o, lo = some o → (Instr.sliceBound (a.eval o) hh.toNat .sliceB).run P w = .ok l.toNat w := by
          rintro o rfl; exact abound_run (P := P) hg hl h0 (by omega) _
        have b1 : ∀ o, hi = some o → (Instr.sliceBound (a.eval o) cap .sliceAcap).run P w = .ok hh.toNat w := by
          rintro o rfl; exact abound_run (P := P) hg hhh (by omega) (by omega) _
        have c1 : lo = none → l = 0 := by rintro rfl; simpa [abound] using hl.symm
        have c2 : hi = none → hh = rows.length := by rintro rfl; simpa [abound] using hhh.symm
        cases lo with
        | none =>
          have := c1 rfl; subst this
          cases hi with
          | none => have := c2 rfl; subst this; simp [Instr.sliceAt, Instr.slice, run_underlying hu, Instr.sliceBounds, tsize_run hn]
          | some o => simp [Instr.sliceAt, Instr.slice, run_underlying hu, Instr.sliceBounds, tsize_run hn, b1 o rfl]
        | some o' =>
          cases hi with
          | none => have := c2 rfl; subst this; have := b2 o' rfl; simp at this; simp [Instr.sliceAt, Instr.slice, run_underlying hu, Instr.sliceBounds, tsize_run hn, this]
          | some o => simp [Instr.sliceAt, Instr.slice, run_underlying hu, Instr.sliceBounds, tsize_run hn, b1 o rfl, b2 o' rfl]
      · simp only [rep, irep]
        have hlen : ((rows.take hh.toNat).drop l.toNat).length = hh.toNat - l.toNat := by simp; omega
        refine ⟨_, _, by rw [hlen], ⟨by rw [hlen]; omega, by omega⟩, ?_⟩
        by_cases hz : hh.toNat = l.toNat
        · left; apply List.eq_nil_of_length_eq_zero; rw [hlen]; omega
        · right
          rcases hrows with rfl | ⟨b, o, rfl, hr⟩
          · simp at h2; omega
          · rw [if_neg (by omega)]
            exact ⟨b, o + l.toNat * n, by simp [Addr.add_lit], irows_drop _ (irows_take _ hr)⟩
    · rename_i n m l hh hn hl hhh
      split at h
      · rename_i k q o hq
        cases hnb : Nat.beq n sz with
        | false => simp [hnb] at h
        | true =>
        have hns := Nat.eq_of_beq_eq_true hnb; subst hns
        simp only [hnb, cond_true, Option.some.injEq, Prod.mk.injEq] at h; obtain ⟨rfl, rfl⟩ := h
        obtain ⟨h0, h1, h2, h3⟩ := hv
        have hqv : a.eval m = .int k q := by have := ev_rep hg m; rw [hq] at this; simpa only [rep] using this
        refine ⟨.slice (if q.toNat = l.toNat then ad else ad.map (·.add (l.toNat * n))) (hh.toNat - l.toNat) (q.toNat - l.toNat), ?_, ?_⟩
        · have b3 : (Instr.sliceBound (.int k q) cap .slice3Acap).run P w = .ok q.toNat w := by
            have e1 : 0 ≤ q := by omega
            have e2 : q ≤ (cap : Int) := by omega
            simp [Instr.sliceBound, asIntOf, e1, e2]
          have b2 : ∀ o, lo = some o → (Instr.sliceBound (a.eval o) hh.toNat .slice3C).run P w = .ok l.toNat w := by
            rintro o rfl; exact abound_run (P := P) hg hl h0 (by omega) _
          have b1 : (Instr.sliceBound (a.eval o) q.toNat .slice3B).run P w = .ok hh.toNat w := abound_run (P := P) hg hhh (by omega) (by omega) _
          have c1 : lo = none → l = 0 := by rintro rfl; simpa [abound] using hl.symm
          cases lo with
          | none =>
            have := c1 rfl; subst this
            simp [Instr.sliceAt, Instr.slice, run_underlying hu, Instr.sliceBounds, tsize_run hn, hqv, b3, b1]
          | some o' => simp [Instr.sliceAt, Instr.slice, run_underlying hu, Instr.sliceBounds, tsize_run hn, hqv, b3, b1, b2 o' rfl]
        · simp only [rep, irep]
          have hlen : ((rows.take hh.toNat).drop l.toNat).length = hh.toNat - l.toNat := by simp; omega
          refine ⟨_, _, by rw [hlen], ⟨by rw [hlen]; omega, by omega⟩, ?_⟩
          by_cases hz : hh.toNat = l.toNat
          · left; apply List.eq_nil_of_length_eq_zero; rw [hlen]; omega
          · right
            rcases hrows with rfl | ⟨b, o, rfl, hr⟩
            · simp at h3; omega
            · rw [if_neg (by omega)]
              exact ⟨b, o + l.toNat * n, by simp [Addr.add_lit], irows_drop _ (irows_take _ hr)⟩
      · simp at h
    · simp at h
  · simp at h

def aidx (P : Program) (T : TypeId) (x i : V) : AR := match P.underlying T, x, i with
  | some .string, .lit (.string s), .lit (.int _ n) => some (some (0 ≤ n ∧ n < s.size), .lit (.int .u8 (byteAt s n)))
  | some (.array len e), .agg cs, .lit (.int _ n) => match tsize P e with
    | some m => (apart P e cs (n.toNat * m)).map fun v => (some (0 ≤ n ∧ n < len), v)
    | none => none
  | _, _, _ => none
theorem aidx_run {P : Program} {T : TypeId} {x i : V} {vc : VC} {v : V} (h : aidx P T x i = some (vc, v)) (hv : holds vc) {E : Env} {w : World} {a b : Value} (hx : rep E w x a) (hi : rep E w i b) :
    ∃ z, (Instr.index T a b).run P w = .ok z w ∧ rep E w v z := by
  unfold aidx at h
  split at h
  · rename_i s k n hu
    simp only [Option.some.injEq, Prod.mk.injEq] at h; obtain ⟨rfl, rfl⟩ := h
    simp only [rep] at hx hi; subst hx; subst hi
    simp only [holds] at hv
    have hlt : n.toNat < s.size := by omega
    have e1 : s[n.toNat]? = some s[n.toNat] := getElem?_pos s n.toNat hlt
    refine ⟨_, ?_, rep_lit⟩
    have e2 : byteAt s n = (s[n.toNat].toNat : Int) := by
      unfold byteAt
      have : s.data[n.toNat]? = some s[n.toNat] := getElem?_pos s.data n.toNat hlt
      rw [this]
    rw [e2]
    simp [Instr.index, asIntOf, run_underlying hu, hv.1, e1]
  · rename_i len e cs k n hu
    cases hm : tsize P e with
    | none => simp [hm] at h
    | some m =>
      simp only [hm, Option.map_eq_some_iff] at h
      obtain ⟨v', h1, h2⟩ := h
      simp only [Prod.mk.injEq] at h2; obtain ⟨rfl, rfl⟩ := h2
      simp only [rep] at hx hi; subst hi
      obtain ⟨ys, rfl, hc⟩ := hx
      obtain ⟨z, p1, p2⟩ := apart_run h1 hc
      refine ⟨z, ?_, p2⟩
      simp [Instr.index, asIntOf, run_underlying hu, hv.1, hv.2, tsize_run hm, p1]
  · simp at h

def amax2 (big : Bool) : V → V → Option V
  | .lit (.int k a), .lit (.int _ b) => some (.lit (.int k (bif big then (if b > a then b else a) else (if b < a then b else a))))
  | _, _ => none
def amaxL (big : Bool) : V → List V → Option V
  | x, [] => some x
  | x, y :: r => match amax2 big x y with
    | some z => amaxL big z r
    | none => none
theorem amaxL_run {P : Program} {E : Env} {w : World} (big : Bool) : ∀ (r : List V) (x : V) (a : Value) (bs : List Value) (v : V), amaxL big x r = some v → rep E w x a → repL E w r bs →
    ∃ z, (bs.foldlM (bif big then Builtin.max2 else Builtin.min2) a : Sem Value).run P w = .ok z w ∧ rep E w v z
  | [], x, a, bs, v, h, ha, hb => by
    simp only [amaxL, Option.some.injEq] at h; subst h
    simp only [repL] at hb; subst hb
    exact ⟨a, by simp, ha⟩
  | y :: r, x, a, bs, v, h, ha, hb => by
    simp only [repL] at hb
    obtain ⟨b, bs, rfl, h1, h2⟩ := hb
    simp only [amaxL] at h
    cases hz : amax2 big x y with
    | none => simp [hz] at h
    | some z =>
      simp only [hz] at h
      unfold amax2 at hz
      split at hz
      · rename_i k m k' n
        simp only [Option.some.injEq] at hz; subst hz
        simp only [rep] at ha h1; subst ha; subst h1
        obtain ⟨z, g1, g2⟩ := amaxL_run big r _ (.int k (bif big then (if n > m then n else m) else (if n < m then n else m))) bs v h (by simp only [rep]) h2
        refine ⟨z, ?_, g2⟩
        cases big <;> simp [Builtin.max2, Builtin.min2] at g1 ⊢ <;> exact g1
      · simp at hz

def optAll {α : Type} : List (Option α) → Option (List α)
  | [] => some []
  | some x :: r => match optAll r with
    | some l => some (x :: l)
    | none => none
  | none :: _ => none
/-- What a pure operation tells, and what it owes. -/
def apure (P : Program) (st : St) (h : Hint) : Op → AR
  | .move x => some (none, ev st x)
  | .assign x => some (none, ev st x)
  | .pick c a b => match ev st c with
    | .lit (.bool true) => some (none, ev st a)
    | .lit (.bool false) => some (none, ev st b)
    | _ => none
  | .nilCheck x => match ev st x with
    | .ptr l o => some (none, .ptr l o)
    | _ => none
  | .load T a => match ev st a with
    | .ptr l o => match st.ob l with
      | some (.box _ cs) => (aload P T cs o).map fun v => (none, v)
      | _ => none
    | .ip cs => (aload P T cs 0).map fun v => (none, v)
    | .rp l n sz i r => match st.ob l, h with
      | some (.row _ sz' rows _), .row rr => bif Nat.beq sz sz' then (aload P T rr r).map fun v => (some (n = rows.length ∧ rows[i]? = some rr), v) else none
      | _, _ => none
    | _ => none
  | .fieldAddr S x f => match foff P S f, ev st x with
    | some k, .ptr l o => some (none, .ptr l (o + k))
    | some k, .ip cs => bif Nat.ble k cs.length then some (none, .ip (cs.drop k)) else none
    | some k, .rp l n sz i r => some (none, .rp l n sz i (r + k))
    | _, _ => none
  | .extract t i => match ev st t with
    | .tup vs => (vs[i]?).map fun v => (none, v)
    | _ => none
  | .indexAddr T x ix => match P.underlying T, ev st x, ev st ix with
    | some (.slice e), .sl sz rows, .lit (.int _ i) => match tsize P e, h with
      | some n, .row r => bif Nat.beq n sz then some (some (0 ≤ i ∧ rows[i.toNat]? = some r), .ip r) else none
      | _, _ => none
    | some (.slice e), .sref l n, .lit (.int _ i) => match tsize P e, st.ob l with
      | some m, some (.row _ sz rows _) => bif Nat.beq m sz then some (some (0 ≤ i ∧ i < n ∧ n = rows.length), .rp l n sz i.toNat 0) else none
      | _, _ => none
    | some (.array len e), .ptr l o, .lit (.int _ i) => match tsize P e with
      | some m => some (some (0 ≤ i ∧ i < len), .ptr l (o + i.toNat * m))
      | _ => none
    | _, _, _ => none
  | .binOp op t x y _ => match abin op (ev st x) (ev st y) with
    | some r => some r
    | none => abinq P op t (ev st x) (ev st y)
  | .unOp .not _ x => match ev st x with
    | .lit (.bool b) => some (none, .lit (.bool (!b)))
    | _ => none
  | .convert src dst x => aconv P src dst (ev st x)
  | .index T x i => aidx P T (ev st x) (ev st i)
  | .field S x f => match P.underlying S, ev st x with
    | some (.struct fs), .agg cs => match fs[f]? with
      | some fd => (apart P fd.type cs fd.offset).map fun v => (none, v)
      | none => none
    | _, _ => none
  | .slice t x lo hi mx => aslice P st t (ev st x) lo hi mx
  | .makeFunc (.func g) first caps => some (none, .clo g (first.toList.map (ev st)) (caps.toList.map (ev st)))
  | .build T parts => match tzero P T, P.underlying T with
    | some z, some (.struct fs) => match optAll (fs.toList.map fun f => (tsize P f.type).map fun s => (f.offset, s)) with
      | some places => (afill (places[·]?) (z.map .lit) (parts.toList.map fun p => (p.1, ev st p.2))).map fun cs => (none, .agg cs)
      | none => none
    | _, _ => none
  | .call { callee := .builtin .len, args, argTypes } => match args.toList, argTypes.toList with
    | [x], [t] => alen P st t (ev st x)
    | _, _ => none
  | .call { callee := .builtin .max, args, argTypes } => match args.toList with
    | x :: r => (amaxL true (ev st x) (r.map (ev st))).map fun v => (none, v)
    | _ => none
  | .call { callee := .builtin .min, args, argTypes } => match args.toList with
    | x :: r => (amaxL false (ev st x) (r.map (ev st))).map fun v => (none, v)
    | _ => none
  | _ => none

end Go.Proofs.Fw
