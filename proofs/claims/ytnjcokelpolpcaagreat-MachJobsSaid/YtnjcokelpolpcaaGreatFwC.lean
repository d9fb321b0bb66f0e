/- Operations that only tell a value: what they tell, and that the machine tells the same. -/
import Derived.Test.YtnjcokelpolpcaaGreatFwB
set_option linter.unusedVariables false
set_option linter.unusedSimpArgs false
set_option linter.unusedSectionVars false
set_option linter.unnecessarySimpa false
namespace Go.Proofs.Fw
open Go Go.RowKit

/-! ### what the program's types say -/
def tsize (P : Program) (t : TypeId) : Option Nat := (P.info? t).map (·.size)
def tagg (P : Program) (t : TypeId) : Option Bool := match P.underlying t with
  | some (.struct _) | some (.array _ _) => some true
  | some _ => some false
  | none => none
def foff (P : Program) (S : TypeId) (f : Nat) : Option Nat := match P.underlying S with
  | some (.struct fs) => match fs[f]? with
    | some fd => match tsize P fd.type with
      | some 0 => none
      | some _ => some fd.offset
      | none => none
    | none => none
  | _ => none
def tzero (P : Program) (t : TypeId) : Option (List Value) := ((P.info? t).bind (·.zero)).map (·.cells.toList)

theorem tsize_run {P : Program} {t : TypeId} {n : Nat} (h : tsize P t = some n) (w : World) : (sizeOf t).run P w = .ok n w := by
  unfold tsize at h
  cases hi : P.info? t with
  | none => simp [hi] at h
  | some i => simp [hi] at h; simp [sizeOf, typeInfo, hi, h]
theorem tagg_run {P : Program} {t : TypeId} {b : Bool} (h : tagg P t = some b) (w : World) : (isAgg t).run P w = .ok b w := by
  unfold tagg at h
  cases hi : P.underlying t with
  | none => simp [hi] at h
  | some d => cases d <;> simp [hi] at h <;> subst h <;> simp [isAgg, underlying, hi]

def one (v : V) : Bool := match v with
  | .lit x => x.oneCell'
  | .ptr .. | .rp .. | .ip _ | .sref .. | .mref _ | .clo .. | .sl .. => true
  | _ => false

/-- A variable read out of cells. -/
def aload (P : Program) (T : TypeId) (cs : List V) (o : Nat) : Option V := match tagg P T, tsize P T with
  | some true, some n => bif Nat.ble (o + n) cs.length then some (.agg ((cs.drop o).take n)) else none
  | some false, some _ => cs[o]?
  | _, _ => none

theorem getElem?_of_cells {w : World} {b : Nat} {ys : List Value} {T : TypeId} (h : w.heap[b]? = some (.cells ys.toArray T (0, 0))) (j : Nat) : w.cell? ⟨b, j, none⟩ = ys[j]? := by
  simp [World.cell?, h]

theorem aload_mem {P : Program} {E : Env} {w : World} {T : TypeId} {cs : List V} {o : Nat} {v : V} (h : aload P T cs o = some v) {b o0 : Nat} {ys : List Value}
    (hm : ∀ j y, ys[j]? = some y → w.cell? ⟨b, o0 + j, none⟩ = some y) (hc : repL E w cs ys) : ∃ x, (loadVar T ⟨b, o0 + o, none⟩).run P w = .ok x w ∧ rep E w v x := by
  unfold aload at h
  cases hA : tagg P T with
  | none => simp [hA] at h
  | some g =>
    cases hS : tsize P T with
    | none => cases g <;> simp [hA, hS] at h
    | some n =>
      cases g with
      | true =>
        simp only [hA, hS] at h
        cases hle : Nat.ble (o + n) cs.length with
        | false => simp [hle] at h
        | true =>
          simp only [hle, cond_true, Option.some.injEq] at h
          subst h
          have hle' : o + n ≤ cs.length := Nat.le_of_ble_eq_true hle
          have hlen := repL_length hc
          have hn : ((ys.drop o).take n).length = n := by simp; omega
          have hr := run_loadCells_list (P := P) w ⟨b, o0 + o, none⟩ ((ys.drop o).take n) (fun j y hy => by
            rw [Addr.add_lit, Nat.add_assoc]
            rw [List.getElem?_take] at hy
            split at hy
            · exact hm _ y (by simpa using hy)
            · simp at hy)
          rw [hn] at hr
          refine ⟨.agg ((ys.drop o).take n).toArray, by simp [loadVar, tagg_run hA, tsize_run hS, hr], ?_⟩
          simp only [rep]
          exact ⟨_, rfl, repL_take n (repL_drop o hc)⟩
      | false =>
        simp only [hA, hS] at h
        obtain ⟨x, h1, h2⟩ := repL_get o v hc h
        refine ⟨x, ?_, h2⟩
        have : w.cell? ⟨b, o0 + o, none⟩ = some x := hm o x h1
        simp [loadVar, tagg_run hA, run_load, this]
theorem aload_box {P : Program} {E : Env} {w : World} {T : TypeId} {cs : List V} {o : Nat} {v : V} (h : aload P T cs o = some v) {b : Nat} {ys : List Value} {U : TypeId}
    (hb : w.heap[b]? = some (.cells ys.toArray U (0, 0))) (hc : repL E w cs ys) : ∃ x, (loadVar T ⟨b, o, none⟩).run P w = .ok x w ∧ rep E w v x := by
  have := aload_mem (P := P) (b := b) (o0 := 0) h (fun j y hy => by rw [Nat.zero_add, getElem?_of_cells hb]; exact hy) hc
  rwa [Nat.zero_add] at this

theorem aload_imm {P : Program} {E : Env} {w : World} {T : TypeId} {cs : List V} {r : Nat} {v : V} (h : aload P T cs r = some v) {b o : Nat}
    (hc : icells E.imm w b o cs) : ∃ x, (loadVar T ⟨b, o + r, none⟩).run P w = .ok x w ∧ rep E w v x := by
  unfold aload at h
  cases hA : tagg P T with
  | none => simp [hA] at h
  | some g =>
    cases hS : tsize P T with
    | none => cases g <;> simp [hA, hS] at h
    | some n =>
      cases g with
      | true =>
        simp only [hA, hS] at h
        cases hle : Nat.ble (r + n) cs.length with
        | false => simp [hle] at h
        | true =>
          simp only [hle, cond_true, Option.some.injEq] at h
          subst h
          have hle' : r + n ≤ cs.length := Nat.le_of_ble_eq_true hle
          obtain ⟨ys, k1, k2⟩ := icells_values (icells_take n (icells_drop r hc (by omega)))
          have hlen := irepL_length k1
          have hn : ys.length = n := by rw [← hlen]; simp; omega
          have hr := run_loadCells_list (P := P) w ⟨b, o + r, none⟩ ys (fun j y hy => by rw [Addr.add_lit]; exact k2 j y hy)
          rw [hn] at hr
          refine ⟨.agg ys.toArray, by simp [loadVar, tagg_run hA, tsize_run hS, hr], ?_⟩
          simp only [rep]
          exact ⟨_, rfl, irepL_repL k1⟩
      | false =>
        simp only [hA, hS] at h
        obtain ⟨x, h1, _, h2⟩ := icells_length_get r v hc h
        exact ⟨x, by simp [loadVar, tagg_run hA, run_load, h1], irep_rep h2⟩

/-- What a text may be told besides: the element that is looked at; a test's outcome; a length. -/
inductive Hint where
  | none
  | row (r : List V)
  | bool (b : Bool)

/-- What is owed: nothing, or this. -/
abbrev VC := Option Prop
def holds : VC → Prop
  | none => True
  | some p => p
abbrev AR := Option (VC × V)

/-- Bits of two numbers. -/
def bitsV (op : BinOp) (k : IntKind) (x y : Int) : Int :=
  k.wrap (match op with
    | .and => (BitVec.ofInt k.bits x &&& BitVec.ofInt k.bits y).toNat
    | .or => (BitVec.ofInt k.bits x ||| BitVec.ofInt k.bits y).toNat
    | _ => (BitVec.ofInt k.bits x ^^^ BitVec.ofInt k.bits y).toNat)
def abin (op : BinOp) (x y : V) : AR := match x, y with
  | .lit (.int k a), .lit (.int k' b) => bif decide (k = k') then (match op with
    | .add => some (none, .lit (.int k (k.wrap (a + b))))
    | .sub => some (none, .lit (.int k (k.wrap (a - b))))
    | .mul => some (none, .lit (.int k (k.wrap (a * b))))
    | .quo => some (some (b ≠ 0), .lit (.int k (k.wrap (a.tdiv b))))
    | .rem => some (some (b ≠ 0), .lit (.int k (a.tmod b)))
    | .eql => some (none, .lit (.bool (decide (a = b))))
    | .neq => some (none, .lit (.bool (!decide (a = b))))
    | .lss => some (none, .lit (.bool (decide (a < b))))
    | .leq => some (none, .lit (.bool (decide (a ≤ b))))
    | .gtr => some (none, .lit (.bool (decide (a > b))))
    | .geq => some (none, .lit (.bool (decide (a ≥ b))))
    | .shl => some (some (0 ≤ b), .lit (.int k (k.wrap (a * 2 ^ (min b.toNat k.bits)))))
    | .shr => some (some (0 ≤ b), .lit (.int k (a.fdiv (2 ^ (min b.toNat k.bits)))))
    | .and => some (none, .lit (.int k (bitsV .and k a b)))
    | .or => some (none, .lit (.int k (bitsV .or k a b)))
    | .xor => some (none, .lit (.int k (bitsV .xor k a b)))
    | _ => none) else (match op with
    | .shl => some (some (0 ≤ b), .lit (.int k (k.wrap (a * 2 ^ (min b.toNat k.bits)))))
    | .shr => some (some (0 ≤ b), .lit (.int k (a.fdiv (2 ^ (min b.toNat k.bits)))))
    | _ => none)
  | .lit (.string a), .lit (.string b) => match op with
    | .add => some (some (a.size + b.size ≤ 9223372036854775807), .lit (.string (a ++ b)))
    | .eql => some (none, .lit (.bool (decide (a = b))))
    | .neq => some (none, .lit (.bool (!decide (a = b))))
    | .lss => some (none, .lit (.bool (Op.bytesLess a.toList b.toList)))
    | .geq => some (none, .lit (.bool (!Op.bytesLess a.toList b.toList)))
    | .gtr => some (none, .lit (.bool (!(Op.bytesLess a.toList b.toList || decide (a = b)))))
    | .leq => some (none, .lit (.bool (Op.bytesLess a.toList b.toList || decide (a = b))))
    | _ => none
  | _, _ => none

theorem int_beq (a b : Int) : (a == b) = decide (a = b) := by
  by_cases h : a = b <;> simp [h]
theorem int_bne (a b : Int) : (a != b) = !decide (a = b) := by
  by_cases h : a = b <;> simp [h]
theorem str_beq (a b : ByteArray) : (a.toList == b.toList) = decide (a = b) := by
  rw [ByteArray.toList_eq, ByteArray.toList_eq]
  by_cases h : a = b
  · subst h; simp
  · have : a.data.toList ≠ b.data.toList := fun e => h (by
      obtain ⟨⟨x⟩⟩ := a; obtain ⟨⟨y⟩⟩ := b; simp at e; subst e; rfl)
    simp only [beq_eq_false_iff_ne.2 this, h, decide_false]
theorem rep_lit {E : Env} {w : World} {v : Value} : rep E w (.lit v) v := by simp only [rep]

theorem abin_run {P : Program} {op : BinOp} {t : TypeId} {x y : V} {vc : VC} {v : V} (h : abin op x y = some (vc, v)) (hv : holds vc) {E : Env} {w : World} {p q : Operand} {a b : Value}
    (ha : rep E w x a) (hb : rep E w y b) : ∃ z, (do eqGuard op t p q a b; binOp op t a b : Sem Value).run P w = .ok z w ∧ rep E w v z := by
  unfold abin at h
  split at h
  · rename_i k m k' n
    simp only [rep] at ha hb
    subst ha; subst hb
    have hg : ∀ z, (do eqGuard op t p q (.int k m) (.int k' n); z : Sem Value).run P w = z.run P w := by
      intro z
      have : (eqGuard op t p q (.int k m) (.int k' n)).run P w = .ok () w := by
        unfold eqGuard; cases op <;> simp
      simp [this]
    rw [hg]
    by_cases hkk : k = k'
    case neg =>
      simp only [hkk, decide_false, cond_false] at h
      cases op <;> simp only [Option.some.injEq, Prod.mk.injEq, reduceCtorEq] at h
      all_goals (obtain ⟨rfl, rfl⟩ := h)
      all_goals (simp only [holds] at hv; refine ⟨_, ?_, rep_lit⟩; have hn : ¬ n < 0 := (by omega); simp [binOp, Op.shift, hn]; done)
    subst hkk
    simp only [decide_true, cond_true] at h
    cases op <;> simp only [Option.some.injEq, Prod.mk.injEq, reduceCtorEq] at h
    all_goals (obtain ⟨rfl, rfl⟩ := h)
    all_goals (simp only [holds] at hv)
    all_goals first
      | (refine ⟨_, ?_, rep_lit⟩; simp [binOp, Op.intArith, Op.intCmp, int_beq, int_bne]; done)
      | (refine ⟨_, ?_, rep_lit⟩; simp [binOp, Op.intBits, bitsV]; done)
      | (have hz := hv; refine ⟨_, ?_, rep_lit⟩; simp [binOp, Op.intDiv, hz]; done)
      | (refine ⟨_, ?_, rep_lit⟩; have hn : ¬ n < 0 := (by omega); simp [binOp, Op.shift, hn]; done)
  · rename_i m n
    simp only [rep] at ha hb
    subst ha; subst hb
    have hg : ∀ z, (do eqGuard op t p q (.string m) (.string n); z : Sem Value).run P w = z.run P w := by
      intro z
      have : (eqGuard op t p q (.string m) (.string n)).run P w = .ok () w := by
        unfold eqGuard; cases op <;> simp
      simp [this]
    rw [hg]
    cases op <;> simp only [Option.some.injEq, Prod.mk.injEq, reduceCtorEq] at h
    all_goals (obtain ⟨rfl, rfl⟩ := h)
    all_goals first
      | (refine ⟨_, ?_, rep_lit⟩; simp [binOp, Op.stringOp, str_beq]; done)
      | (simp only [holds] at hv; refine ⟨_, ?_, rep_lit⟩; simp [binOp, Op.stringOp]; omega)
  · simp at h

/-! ### struct values: '==' -/
def apart (P : Program) (t : TypeId) (cs : List V) (o : Nat) : Option V := match tagg P t, tsize P t with
  | some true, some n => bif Nat.ble (o + n) cs.length then some (.agg ((cs.drop o).take n)) else none
  | some false, _ => cs[o]?
  | _, _ => none
theorem apart_run {P : Program} {E : Env} {w : World} {t : TypeId} {cs : List V} {o : Nat} {v : V} (h : apart P t cs o = some v) {ys : List Value} (hc : repL E w cs ys) :
    ∃ x, (part t ys.toArray o).run P w = .ok x w ∧ rep E w v x := by
  unfold apart at h
  cases hA : tagg P t with
  | none => simp [hA] at h
  | some g =>
    cases g with
    | true =>
      cases hS : tsize P t with
      | none => simp [hA, hS] at h
      | some n =>
        simp only [hA, hS] at h
        cases hle : Nat.ble (o + n) cs.length with
        | false => simp [hle] at h
        | true =>
          simp only [hle, cond_true, Option.some.injEq] at h
          subst h
          have hle' : o + n ≤ cs.length := Nat.le_of_ble_eq_true hle
          refine ⟨.agg ((ys.drop o).take n).toArray, ?_, ?_⟩
          · have : ys.toArray.extract o (o + n) = ((ys.drop o).take n).toArray := by
              rw [List.extract_toArray, List.extract_eq_take_drop]; simp
            simp [part, tagg_run hA, tsize_run hS, this]
          · simp only [rep]; exact ⟨_, rfl, repL_take n (repL_drop o hc)⟩
    | false =>
      have h' : cs[o]? = some v := by
        cases hS : tsize P t <;> simpa [hA, hS] using h
      obtain ⟨x, h1, h2⟩ := repL_get o v hc h'
      exact ⟨x, by simp [part, tagg_run hA, h1], h2⟩

def aeqF (P : Program) (eq : TypeId → V → V → Option Bool) : List Field → List V → List V → Option Bool
  | [], _, _ => some true
  | f :: fs, xs, ys => bif decide (f.name = "_") then aeqF P eq fs xs ys else
    match apart P f.type xs f.offset, apart P f.type ys f.offset with
    | some a, some b => match eq f.type a b with
      | some r => match aeqF P eq fs xs ys with
        | some q => some (r && q)
        | none => none
      | none => none
    | _, _ => none
def aeqV (P : Program) : Nat → TypeId → V → V → Option Bool
  | 0, _, _, _ => none
  | d + 1, t, x, y => match P.underlying t, x, y with
    | some .bool, .lit (.bool a), .lit (.bool b) => some (decide (a = b))
    | some (.int _), .lit (.int k a), .lit (.int k' b) => bif decide (k = k') then some (decide (a = b)) else none
    | some .string, .lit (.string a), .lit (.string b) => some (decide (a = b))
    | some (.struct fs), .agg xs, .agg ys => bif P.stoodInHeld t then none else aeqF P (aeqV P d) fs.toList xs ys
    | _, _, _ => none

theorem aeqF_run {P : Program} {d D : Nat} {E : Env} {w : World} (ih : ∀ t x y r a b, aeqV P d t x y = some r → rep E w x a → rep E w y b → (Op.equalIn D t a b).run P w = .ok r w) :
    ∀ (fs : List Field) (xs ys : List V) (r : Bool) (as bs : List Value), aeqF P (aeqV P d) fs xs ys = some r → repL E w xs as → repL E w ys bs →
      (Op.eqFields D as.toArray bs.toArray fs).run P w = .ok r w
  | [], xs, ys, r, as, bs, h, _, _ => by simp [aeqF] at h; subst h; simp [Op.eqFields]
  | f :: fs, xs, ys, r, as, bs, h, ha, hb => by
    simp only [aeqF] at h
    by_cases hn : f.name = "_"
    · simp only [hn, decide_true, cond_true] at h
      have := aeqF_run ih fs xs ys r as bs h ha hb
      simp [Op.eqFields, hn, this]
    · simp only [hn, decide_false, cond_false] at h
      cases h1 : apart P f.type xs f.offset with
      | none => simp [h1] at h
      | some a =>
        cases h2 : apart P f.type ys f.offset with
        | none => simp [h1, h2] at h
        | some b =>
          simp only [h1, h2] at h
          obtain ⟨x, p1, q1⟩ := apart_run h1 ha
          obtain ⟨y, p2, q2⟩ := apart_run h2 hb
          cases h3 : aeqV P d f.type a b with
          | none => simp [h3] at h
          | some r1 =>
            simp only [h3] at h
            have e1 := ih f.type a b r1 x y h3 q1 q2
            cases h4 : aeqF P (aeqV P d) fs xs ys with
            | none => simp [h4] at h
            | some r2 =>
              simp only [h4, Option.some.injEq] at h
              have e2 := aeqF_run ih fs xs ys r2 as bs h4 ha hb
              subst h
              cases r1 <;> simp [Op.eqFields, hn, p1, p2, e1, e2]

theorem aeqV_run {P : Program} {E : Env} {w : World} : ∀ (d D : Nat) (t : TypeId) (x y : V) (r : Bool) (a b : Value), d ≤ D → aeqV P d t x y = some r → rep E w x a → rep E w y b →
    (Op.equalIn D t a b).run P w = .ok r w
  | 0, _, t, x, y, r, a, b, _, h, _, _ => by simp [aeqV] at h
  | d + 1, D, t, x, y, r, a, b, hD, h, ha, hb => by
    obtain ⟨D, rfl⟩ : ∃ m, D = m + 1 := ⟨D - 1, by omega⟩
    unfold aeqV at h
    split at h
    · rename_i a b hu
      simp only [rep] at ha hb; subst ha; subst hb
      simp only [Option.some.injEq] at h; subst h
      rw [run_equalIn_bool w D t a b hu]
      congr 1
    · rename_i k0 k a k' b hu
      simp only [rep] at ha hb; subst ha; subst hb
      by_cases e : k = k'
      · subst e
        simp only [decide_true, cond_true, Option.some.injEq] at h; subst h
        rw [run_equalIn_int w D t k k0 a b hu, int_beq]
      · simp [e] at h
    · rename_i a b hu
      simp only [rep] at ha hb; subst ha; subst hb
      simp only [Option.some.injEq] at h; subst h
      rw [run_equalIn_string w D t a b hu, str_beq]
    · rename_i fs xs ys hu
      simp only [rep] at ha hb
      obtain ⟨as, rfl, ha⟩ := ha
      obtain ⟨bs, rfl, hb⟩ := hb
      cases hp : P.stoodInHeld t with
      | true => simp [hp] at h
      | false =>
        simp only [hp, cond_false] at h
        have hf : P.fieldsOf t = fs := by simp [Program.fieldsOf, hu]
        rw [run_equalIn_agg w D t as.toArray bs.toArray (by rw [hf]; exact hu) hp, hf]
        exact aeqF_run (fun t x y r a b h h1 h2 => aeqV_run d D t x y r a b (by omega) h h1 h2) fs.toList xs ys r as bs h ha hb
    · simp at h

/-- '==' and '!=' of what is no number and no text. -/
def abinq (P : Program) (op : BinOp) (t : TypeId) (x y : V) : AR := match op, x, y with
  | .eql, .lit (.bool a), .lit (.bool b) => match P.underlying t with
    | some .bool => some (none, .lit (.bool (decide (a = b))))
    | _ => none
  | .neq, .lit (.bool a), .lit (.bool b) => match P.underlying t with
    | some .bool => some (none, .lit (.bool (!decide (a = b))))
    | _ => none
  | .eql, .agg xs, .agg ys => bif P.eqGuardType P.depth t then none else (aeqV P 20 t (.agg xs) (.agg ys)).map fun b => (none, .lit (.bool b))
  | .neq, .agg xs, .agg ys => bif P.eqGuardType P.depth t then none else (aeqV P 20 t (.agg xs) (.agg ys)).map fun b => (none, .lit (.bool (!b)))
  | _, _, _ => none

theorem abinq_run {P : Program} {op : BinOp} {t : TypeId} {x y : V} {vc : VC} {v : V} (h : abinq P op t x y = some (vc, v)) {E : Env} {w : World} {p q : Operand} {a b : Value}
    (ha : rep E w x a) (hb : rep E w y b) : ∃ z, (do eqGuard op t p q a b; binOp op t a b : Sem Value).run P w = .ok z w ∧ rep E w v z := by
  unfold abinq at h
  split at h
  · rename_i a b
    simp only [rep] at ha hb; subst ha; subst hb
    split at h
    · rename_i hu
      simp only [Option.some.injEq, Prod.mk.injEq] at h
      obtain ⟨_, rfl⟩ := h
      refine ⟨_, ?_, rep_lit⟩
      cases a <;> cases b <;> simp [eqGuard, binOp, Op.equal, run_equalIn_bool w 9999 t _ _ hu, Op.maxDepth]
    · simp at h
  · rename_i a b
    simp only [rep] at ha hb; subst ha; subst hb
    split at h
    · rename_i hu
      simp only [Option.some.injEq, Prod.mk.injEq] at h
      obtain ⟨_, rfl⟩ := h
      refine ⟨_, ?_, rep_lit⟩
      cases a <;> cases b <;> simp [eqGuard, binOp, Op.equal, run_equalIn_bool w 9999 t _ _ hu, Op.maxDepth]
    · simp at h
  · rename_i xs ys
    cases hg : P.eqGuardType P.depth t with
    | true => simp [hg] at h
    | false =>
      simp only [hg, cond_false, Option.map_eq_some_iff] at h
      obtain ⟨r, h1, h2⟩ := h
      simp only [Prod.mk.injEq] at h2
      obtain ⟨_, rfl⟩ := h2
      have hr := aeqV_run 20 10000 t _ _ r a b (by omega) h1 ha hb
      simp only [rep] at ha hb
      obtain ⟨as, rfl, ha⟩ := ha
      obtain ⟨bs, rfl, hb⟩ := hb
      refine ⟨_, ?_, rep_lit⟩
      simp only [Sem.run_bind, run_eqGuard_agg w .eql t p q _ _ hg, Result.andThen_ok, run_eql_struct, hr]
  · rename_i xs ys
    cases hg : P.eqGuardType P.depth t with
    | true => simp [hg] at h
    | false =>
      simp only [hg, cond_false, Option.map_eq_some_iff] at h
      obtain ⟨r, h1, h2⟩ := h
      simp only [Prod.mk.injEq] at h2
      obtain ⟨_, rfl⟩ := h2
      have hr := aeqV_run 20 10000 t _ _ r a b (by omega) h1 ha hb
      simp only [rep] at ha hb
      obtain ⟨as, rfl, ha⟩ := ha
      obtain ⟨bs, rfl, hb⟩ := hb
      refine ⟨_, ?_, rep_lit⟩
      simp only [Sem.run_bind, run_eqGuard_agg w .neq t p q _ _ hg, Result.andThen_ok, run_neq_struct, hr]
  · simp at h

end Go.Proofs.Fw
