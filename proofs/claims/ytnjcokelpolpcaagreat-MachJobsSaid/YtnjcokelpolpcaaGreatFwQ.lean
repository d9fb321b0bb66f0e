/- Short words for what the printer prints: contracts by name, calls, what stays as it is, joins, rounds. -/
import Derived.Test.YtnjcokelpolpcaaGreatFwV
set_option linter.unusedVariables false
set_option linter.unusedSimpArgs false
namespace Go.Proofs.Fw
open Go Go.RowKit

/-- A contract. -/
structure Ct where
  f : Nat
  obs : List Ob
  args : List V
  out : Out
  obs' : List Ob
def Ct.Ok (P : Program) (c : Ct) : Prop := Fn P c.f c.obs c.args (Is c.out c.obs')
def hC (i : Nat) (c : Ct) (ns sh : List Nat) : HintX := ⟨i, sh, .call ⟨ns, c.obs, c.args, c.out, c.obs'⟩⟩
def hV (i : Nat) (v : V) : HintX := ⟨i, [], .val v⟩
def hR (i : Nat) (r : List V) : HintX := ⟨i, [], .row r⟩

def oN : Nat → Option Ob := fun _ => none
theorem subLit_refl (u : Value) : subLit u u := by
  unfold subLit; split <;> simp_all
mutual
theorem subV_refl : ∀ v : V, subV oN v v
  | .dead => by simp only [subV]
  | .agg cs => by simp only [subV]; exact subL_refl cs
  | .tup cs => by simp only [subV]; exact subL_refl cs
  | .sl sz rows => by simp only [subV, subSl]; exact ⟨trivial, trivial⟩
  | .lit u => by simp only [subV]; exact subLit_refl u
  | .ptr _ _ => by simp only [subV]
  | .rp .. => by simp only [subV]
  | .ip _ => by simp only [subV]
  | .sref _ _ => by simp only [subV]; exact ⟨trivial, trivial⟩
  | .mref _ => by simp only [subV]
  | .clo .. => by simp only [subV]
  | .own .. => by simp only [subV]
theorem subL_refl : ∀ vs : List V, subL oN vs vs
  | [] => by simp only [subL]
  | v :: vs => by simp only [subL]; exact ⟨subV_refl v, subL_refl vs⟩
end
/-- As it is. -/
abbrev sV (v : V) : Prop := subV oN v v
abbrev sL (vs : List V) : Prop := subL oN vs vs

def obsR (ns : List Nat) : List Ob → Nat → Bool → Prop
  | [], _, _ => True
  | o :: os, i, _ => some (o.ren (ns.getD · 0)) = some (o.ren (ns.getD · 0)) ∧ obsR ns os (i + 1) true
theorem obsR_of (ns : List Nat) : ∀ (os : List Ob) (i : Nat) (b : Bool), obsR ns os i b
  | [], _, _ => trivial
  | _ :: os, i, _ => ⟨rfl, obsR_of ns os (i + 1) true⟩

/-- A call whose arguments and objects are just so. -/
def cT (P : Program) (c : Ct) (ns : List Nat) : Prop := Fn P c.f c.obs c.args (Is c.out c.obs') ∧ subL oN (renL (ns.getD · 0) c.args) (renL (ns.getD · 0) c.args) ∧ obsR ns c.obs 0 true
theorem Ct.Ok.t {P : Program} {c : Ct} (h : c.Ok P) {ns : List Nat} : cT P c ns := ⟨h, subL_refl _, obsR_of _ _ _ _⟩
/-- A call, its arguments and objects told apart. -/
def cA (P : Program) (c : Ct) (p : Prop) : Prop := Fn P c.f c.obs c.args (Is c.out c.obs') ∧ p
theorem Ct.Ok.a {P : Program} {c : Ct} (h : c.Ok P) {p : Prop} (hp : p) : cA P c p := ⟨h, hp⟩

/-- Slots, and objects, that stay. -/
def sA : List (Nat × V) → Prop → Prop
  | [], p => p
  | (_, v) :: r, p => subV oN v v ∧ sA r p
theorem sA_of {p : Prop} (hp : p) : ∀ l, sA l p
  | [] => hp
  | (_, v) :: r => ⟨subV_refl v, sA_of hp r⟩
theorem subOb_refl : ∀ o : Ob, subOb oN o o
  | .box T cs => by simp only [subOb]; exact ⟨trivial, subL_refl cs⟩
  | .row .. => by simp only [subOb]; exact ⟨trivial, trivial, trivial, trivial⟩
  | .map _ => by simp only [subOb]
  | .gone => by simp only [subOb]
def oA : List (Nat × Ob) → Prop → Prop
  | [], p => p
  | (_, o) :: r, p => subOb oN o o ∧ oA r p
theorem oA_of {p : Prop} (hp : p) : ∀ l, oA l p
  | [] => hp
  | (_, o) :: r => ⟨subOb_refl o, oA_of hp r⟩

/-! ### ways, joined -/
theorem cTt {α : Type} {t : Bool} {x a b : α} (h : t = true) (e : x = a) : x = bif t then a else b := by rw [h]; exact e
theorem cFf {α : Type} {t : Bool} {x a b : α} (h : t = false) (e : x = b) : x = bif t then a else b := by rw [h]; exact e
theorem bAt {t x b : Bool} (h : t = true) (e : x = b) : x = (t && b) := by rw [h]; simpa using e
theorem bAf {t b : Bool} (h : t = false) : false = (t && b) := by rw [h]; rfl
theorem bOt {t b : Bool} (h : t = true) : true = (t || b) := by rw [h]; rfl
theorem bOf {t x b : Bool} (h : t = false) (e : x = b) : x = (t || b) := by rw [h]; simpa using e
theorem bNt {t : Bool} (h : t = true) : false = !t := by rw [h]; rfl
theorem bNf {t : Bool} (h : t = false) : true = !t := by rw [h]; rfl

def eL {α : Type} (c : α → List V) (a b : α) : Prop := subL oN (c a) (c b)
theorem eL_of {α : Type} {c : α → List V} {a b : α} (h : a = b) : eL c a b := by rw [h]; exact subL_refl _
/-! ### rounds -/
/-- What a loop's state is ahead of each round. -/
def itr {S : Type} (n : Nat → S → S) : Nat → S → S
  | 0, s => s
  | i + 1, s => n i (itr n i s)
/-- How many rounds go on. -/
def cnr {S : Type} (c : Nat → S → Bool) (n : Nat → S → S) (s : S) : Nat → Nat → Nat
  | 0, i => i
  | f + 1, i => bif c i (itr n i s) then cnr c n s f (i + 1) else i
theorem cnr_le {S : Type} {c : Nat → S → Bool} {n : Nat → S → S} {s : S} : ∀ (f i : Nat), i ≤ cnr c n s f i ∧ cnr c n s f i ≤ i + f
  | 0, i => by simp [cnr]
  | f + 1, i => by
    have := cnr_le (c := c) (n := n) (s := s) f (i + 1)
    simp only [cnr]; cases c i (itr n i s) <;> simp <;> omega
theorem cnr_go {S : Type} {c : Nat → S → Bool} {n : Nat → S → S} {s : S} : ∀ (f i k : Nat), i ≤ k → k < cnr c n s f i → c k (itr n k s) = true
  | 0, i, k, h, hk => by simp only [cnr] at hk; omega
  | f + 1, i, k, h, hk => by
    simp only [cnr] at hk
    cases hc : c i (itr n i s) with
    | false => rw [hc] at hk; simp only [cond_false] at hk; omega
    | true =>
      rw [hc] at hk; simp only [cond_true] at hk
      rcases Nat.eq_or_lt_of_le h with e | e
      · subst e; exact hc
      · exact cnr_go f (i + 1) k e hk
theorem cnr_end {S : Type} {c : Nat → S → Bool} {n : Nat → S → S} {s : S} : ∀ (f i : Nat), (∀ k, i ≤ k → c k (itr n k s) = true → k < i + f) → c (cnr c n s f i) (itr n (cnr c n s f i) s) = false
  | 0, i, h => by
    simp only [cnr]
    cases hc : c i (itr n i s) with
    | false => rfl
    | true => have := h i (Nat.le_refl _) hc; omega
  | f + 1, i, h => by
    simp only [cnr]
    cases hc : c i (itr n i s) with
    | false => simpa using hc
    | true =>
      simp only [cond_true]
      exact cnr_end f (i + 1) (fun k h1 h2 => by have := h k (by omega) h2; omega)
/-- The rounds' number, told. -/
def rnds {S : Type} (c : Nat → S → Bool) (n : Nat → S → S) (f : Nat) (s : S) : Nat := cnr c n s f 0
theorem rnds_go {S : Type} {c : Nat → S → Bool} {n : Nat → S → S} {f : Nat} {s : S} {i : Nat} (h : i < rnds c n f s) : c i (itr n i s) = true := cnr_go f 0 i (Nat.zero_le _) h
theorem rnds_end {S : Type} {c : Nat → S → Bool} {n : Nat → S → S} {f : Nat} {s : S} (h : ∀ k, c k (itr n k s) = true → k < f) : c (rnds c n f s) (itr n (rnds c n f s) s) = false := cnr_end f 0 (fun k _ h2 => by have := h k h2; omega)
theorem rnds_le {S : Type} {c : Nat → S → Bool} {n : Nat → S → S} {f : Nat} {s : S} : rnds c n f s ≤ f := by have := (cnr_le (c := c) (n := n) (s := s) f 0).2; unfold rnds; omega
theorem rnds_lt {S : Type} {c : Nat → S → Bool} {n : Nat → S → S} {f : Nat} {s : S} (hF : ∀ k, c k (itr n k s) = true → k < f) {i : Nat} (h : i ≤ rnds c n f s) (e : true = c i (itr n i s)) : i < rnds c n f s := by
  rcases Nat.eq_or_lt_of_le h with h1 | h1
  · subst h1; rw [rnds_end hF] at e; exact Bool.noConfusion e
  · exact h1
theorem rnds_eq {S : Type} {c : Nat → S → Bool} {n : Nat → S → S} {f : Nat} {s : S} {i : Nat} (h : i ≤ rnds c n f s) (e : false = c i (itr n i s)) : i = rnds c n f s := by
  rcases Nat.eq_or_lt_of_le h with h1 | h1
  · exact h1
  · rw [rnds_go h1] at e; exact Bool.noConfusion e
theorem ends {N : Nat} {B : Nat → Prop} (h1 : ∀ i, i < N → B i) (h2 : B N) : ∀ i, i ≤ N → B i := fun i h => by
  rcases Nat.eq_or_lt_of_le h with e | e
  · subst e; exact h2
  · exact h1 i e
theorem noGo {p : Prop} {b : Bool} (h1 : b = true) (h2 : false = b) : p := by rw [h1] at h2; exact Bool.noConfusion h2
theorem noEnd {p : Prop} {b : Bool} (h1 : b = false) (h2 : true = b) : p := by rw [h1] at h2; exact Bool.noConfusion h2

theorem bBt {t b : Bool} (h : t = true) : false = (!t && b) := by rw [h]; rfl
theorem bBf {t x b : Bool} (h : t = false) (e : x = b) : x = (!t && b) := by rw [h]; simpa using e
theorem cgU {a b : UInt64} (h : a = b) : ((a.toNat : Nat) : Int) = ((b.toNat : Nat) : Int) := by rw [h]
theorem cgM {α : Type} {c : α → List V} {a b : List α} (h : a = b) : a.map c = b.map c := by rw [h]
theorem cgN {α : Type} {c : α → List V} {b : List α} (h : [] = b) : b.map c = [] := by rw [← h]; rfl
theorem cgF {α β : Type} (f : α → β) {a b : α} (h : a = b) : f a = f b := by rw [h]

theorem rowI {α : Type} [Inhabited α] {c : α → List V} {l : List α} {i : Int} (h : 0 ≤ i ∧ i < (l.length : Int)) : 0 ≤ i ∧ (l.map c)[i.toNat]? = some (c (l.getD i.toNat default)) := by
  refine ⟨h.1, ?_⟩
  have h2 : i.toNat < l.length := by omega
  rw [List.getElem?_map, List.getD_eq_getElem?_getD, List.getElem?_eq_getElem h2]; rfl
theorem room0 {m m' e : Nat} (h1 : m = m') (h : m' * e ≤ 140737488355328) : m * e ≤ 140737488355328 := by rw [h1]; exact h
theorem room0b {m m' e : Nat} (h0 : 0 < e) (h1 : m = m') (h : m' * e ≤ 140737488355328) : m ≤ 9223372036854775807 := by
  rw [h1]; have := Nat.le_mul_of_pos_right m' h0; omega
theorem room1 {a a' m m' e : Nat} (h1 : a = a') (h2 : m = m') (h : (a' + m') * e ≤ 140737488355328) : (a + m) * e ≤ 140737488355328 := by rw [h1, h2]; exact h
theorem room2 {a a' m m' e : Nat} (h0 : 0 < e) (h1 : a = a') (h2 : m = m') (h : (a' + m') * e ≤ 140737488355328) : a + m ≤ 9223372036854775807 := by
  rw [h1, h2]; have := Nat.le_mul_of_pos_right (a' + m') h0; omega
/-! ### numbers -/
theorem wrapI (x : Int) (h1 : -9223372036854775808 ≤ x) (h2 : x < 9223372036854775808) : IntKind.wrap .i64 x = x := by
  simp [IntKind.wrap, IntKind.bits, IntKind.signed]; omega
theorem wrapU (x : Int) (h1 : 0 ≤ x) (h2 : x < 18446744073709551616) : IntKind.wrap .u64 x = x := by
  simp [IntKind.wrap, IntKind.bits, IntKind.signed]; omega
theorem wrapUz (a : Nat) : IntKind.wrap .u64 (a : Int) = ((a % 18446744073709551616 : Nat) : Int) := by simp [IntKind.wrap, IntKind.bits, IntKind.signed]
theorem cstep {i : Nat} (h : ((i : Nat) : Int) + 1 ≤ 9223372036854775807) : IntKind.wrap .i64 (((i : Nat) : Int) + 1) = ((i + 1 : Nat) : Int) := by
  rw [wrapI _ (by omega) (by omega)]; rfl
theorem u_add (a b : UInt64) : IntKind.wrap .u64 ((a.toNat : Int) + (b.toNat : Int)) = ((a + b).toNat : Int) := by
  rw [← Int.natCast_add, wrapUz, UInt64.toNat_add]
theorem u_mul (a b : UInt64) : IntKind.wrap .u64 ((a.toNat : Int) * (b.toNat : Int)) = ((a * b).toNat : Int) := by
  rw [← Int.natCast_mul, wrapUz, UInt64.toNat_mul]
theorem u_sub (a b : UInt64) : IntKind.wrap .u64 ((a.toNat : Int) - (b.toNat : Int)) = ((a - b).toNat : Int) := by
  have h1 := a.toNat_lt; have h2 := b.toNat_lt
  rw [UInt64.toNat_sub]
  simp [IntKind.wrap, IntKind.bits, IntKind.signed]; omega
theorem u_quo (a b : UInt64) : IntKind.wrap .u64 (Int.tdiv (a.toNat : Int) (b.toNat : Int)) = ((a / b).toNat : Int) := by
  rw [UInt64.toNat_div]
  have e : Int.tdiv (a.toNat : Int) (b.toNat : Int) = ((a.toNat / b.toNat : Nat) : Int) := rfl
  have h1 := a.toNat_lt
  rw [e, wrapUz, Nat.mod_eq_of_lt (Nat.lt_of_le_of_lt (Nat.div_le_self _ _) (by omega))]
theorem u_rem (a b : UInt64) : Int.tmod (a.toNat : Int) (b.toNat : Int) = ((a % b).toNat : Int) := by
  rw [UInt64.toNat_mod]; rfl
theorem natw {x : Int} {n : Nat} (h : x = (n : Int) ∧ n ≤ 9223372036854775807) : IntKind.wrap .i64 x = ((n : Nat) : Int) := by
  rw [wrapI _ (by omega) (by omega)]; exact h.1
theorem natwU {x : Int} {n : Nat} (h : x = (n : Int) ∧ n < 18446744073709551616) : IntKind.wrap .u64 x = ((n : Nat) : Int) := by
  rw [wrapU _ (by omega) (by omega)]; exact h.1
theorem idxR {n m k : Nat} {i : Int} (h1 : n = m) (h2 : m = k) (h : 0 ≤ i ∧ i < (k : Int)) : 0 ≤ i ∧ i < ((n : Nat) : Int) ∧ n = m := ⟨h.1, by rw [h1, h2]; exact h.2, h1⟩
theorem cutI {n m k : Nat} {i : Int} (h1 : n = m) (h2 : m = k) (h : 0 ≤ i ∧ i ≤ (k : Int)) : n = m ∧ 0 ≤ i ∧ i ≤ (m : Int) := ⟨h1, h.1, by rw [h2]; exact h.2⟩
/-- A whole number as one of 64 bits. -/
def toU (x : Int) : UInt64 := UInt64.ofNat (IntKind.wrap .u64 x).toNat
theorem toU_eq (x : Int) : IntKind.wrap .u64 x = ((toU x).toNat : Int) := by
  unfold toU
  rw [UInt64.toNat_ofNat']
  have h : 0 ≤ IntKind.wrap .u64 x ∧ IntKind.wrap .u64 x < 18446744073709551616 := by simp [IntKind.wrap, IntKind.bits, IntKind.signed]; omega
  omega
theorem toU_nat (x : Int) : ((toU x).toNat : Int) = x % 18446744073709551616 := by
  rw [← toU_eq]; simp [IntKind.wrap, IntKind.bits, IntKind.signed]

end Go.Proofs.Fw
