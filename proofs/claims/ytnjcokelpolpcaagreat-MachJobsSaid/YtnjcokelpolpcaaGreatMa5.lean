/- Contracts, by a program of mine (wip/gen). -/
import Derived.Test.YtnjcokelpolpcaaGreatMa4
set_option linter.unusedVariables false
set_option linter.unusedSimpArgs false
set_option maxRecDepth 100000
namespace Go.Proofs.Fw
open Go Go.RowKit M


def wideN (v : UInt64) : Bool := decide ((v.toNat : Int) > 4611686018427387903)
def bigPut (p : Put) : Bool := decide ((p.Key.size : Int) > 16) || decide ((p.Val.size : Int) > 32)
def nums (l : List UInt64) : Bool := !l.any wideN


def nums1C (v : UInt64) : Ct := ⟨150, [], [(V.lit (.int .u64 (v.toNat : Int)))], (.ret (V.lit (.bool (wideN v)))), []⟩
theorem nums1 (v : UInt64) : Ct.Ok Tryz.prog (nums1C v) := by
  refine Fn.of' Tryz.func150 rfl (.fin []) (T := (True ∧ (decide (((v.toNat : Int) : Int) > 4611686018427387903) : Bool) = (wideN v))) (by kernel_rfl)
    ⟨trivial, rfl⟩

def wideN_idx_d1 (l : List UInt64) : List (Nat × V) := [(0, (V.sl 1 (l.map c_u64))), (1, (V.clo 150 [] [])), (7, (V.lit (.int .i64 ((l).length : Int))))]
def wideN_idxC (l : List UInt64) : Ct := ⟨189, [], [(V.sl 1 (l.map c_u64)), (V.clo 150 [] [])], (.ret (V.lit (.int .i64 (idxF wideN l)))), []⟩
theorem wideN_idx (l : List UInt64) : Ct.Ok Tryz.prog (wideN_idxC l) := by
  refine Fn.of' Tryz.func189 rfl (.reg 0 [] (.bound 0 (.reg 1 [hV 1 (V.lit (.int .i64 ((l).length : Int)))] (.loop (l.findIdx wideN) (fun i => ⟨19, (wideN_idx_d1 l) ++ [(8, (V.lit (.int .i64 ((i : Nat) : Int))))], [], 1200⟩) (fun i => (.br (.reg 4 [hR 3 [(V.lit (.int .u64 ((l.getD (i : Nat) default).toNat : Int)))], hC 5 (nums1C (l.getD (i : Nat) default)) [] []] (.br (.fin []) .nil)) (.fin []))))))) (T := (((l.map c_u64)).length ≤ 9223372036854775807 → (((IntKind.i64 = IntKind.i64 ∧ ((((l.map c_u64)).length : Int) : Int) = ((l).length : Int))) ∧ (((sA (wideN_idx_d1 l) ((IntKind.i64 = IntKind.i64 ∧ (0 : Int) = ((0 : Nat) : Int)) ∧ True)) ∧ True) ∧ (∀ i, i ≤ (l.findIdx wideN) → (((decide ((((i : Nat) : Int) : Int) < ((l).length : Int)) : Bool) = true → ((((0 : Int) ≤ ((i : Nat) : Int) ∧ (l.map c_u64)[(((i : Nat) : Int) : Int).toNat]? = some [(V.lit (.int .u64 ((l.getD (i : Nat) default).toNat : Int)))]) ∧ (cT Tryz.prog (nums1C (l.getD (i : Nat) default)) [])) ∧ ((((wideN (l.getD (i : Nat) default)) : Bool) = true → (True ∧ (IntKind.i64 = IntKind.i64 ∧ (((i : Nat) : Int) : Int) = (idxF wideN l)))) ∧ (((wideN (l.getD (i : Nat) default)) : Bool) = false → (i < (l.findIdx wideN) ∧ ((sA (wideN_idx_d1 l) ((IntKind.i64 = IntKind.i64 ∧ (IntKind.wrap .i64 (((i : Nat) : Int) + 1) : Int) = (((i + 1) : Nat) : Int)) ∧ True)) ∧ True)))))) ∧ ((decide ((((i : Nat) : Int) : Int) < ((l).length : Int)) : Bool) = false → (True ∧ (IntKind.i64 = IntKind.i64 ∧ (-1 : Int) = (idxF wideN l)))))))))) (by kernel_rfl)
    (fun hb1 => ⟨⟨rfl, (by simp)⟩, ⟨⟨(sA_of ⟨⟨rfl, rfl⟩, trivial⟩ _), trivial⟩, fun i hi2 => ⟨fun h3 => ⟨⟨⟨Int.natCast_nonneg _, row_at _ _ _ (by simp only [decide_eq_true_eq] at *; omega)⟩, (Ct.Ok.t (nums1 (l.getD (i : Nat) default)))⟩, ⟨fun h5 => ⟨trivial, ⟨rfl, ?q2⟩⟩, fun h5 => ⟨(fi_lt ‹_› (by simp only [decide_eq_true_eq] at *; omega) ‹_›), ⟨(sA_of ⟨⟨rfl, (by exact idx_step i l.length (by simp only [decide_eq_true_eq] at *; omega) (by simpa using hb1))⟩, trivial⟩ _), trivial⟩⟩⟩⟩, fun h3 => ⟨trivial, ⟨rfl, ?q5⟩⟩⟩⟩⟩)
  case q2 | q5 => first | (exact idxF_found ‹_› (by simp only [decide_eq_true_eq] at *; omega) ‹_›) | (exact idxF_none ‹_› (by simp only [decide_eq_false_iff_not] at *; omega))


def wideN_anyC (l : List UInt64) : Ct := ⟨149, [], [(V.sl 1 (l.map c_u64)), (V.clo 150 [] [])], (.ret (V.lit (.bool (l.any wideN)))), []⟩
theorem wideN_any (l : List UInt64) : Ct.Ok Tryz.prog (wideN_anyC l) := by
  refine Fn.of' Tryz.func149 rfl (.reg 1 [hC 2 (wideN_idxC l) [] []] (.fin [])) (T := (((cT Tryz.prog (wideN_idxC l) [])) ∧ (True ∧ (decide (((idxF wideN l) : Int) ≥ 0) : Bool) = (l.any wideN)))) (by kernel_rfl)
    ⟨(Ct.Ok.t (wideN_idx l)), ⟨trivial, (idxF_any _ _)⟩⟩


def nums_specC (l : List UInt64) : Ct := ⟨100, [], [(V.sl 1 (l.map c_u64))], (.ret (V.lit (.bool (nums l)))), []⟩
theorem nums_spec (l : List UInt64) : Ct.Ok Tryz.prog (nums_specC l) := by
  refine Fn.of' Tryz.func100 rfl (.reg 1 [hC 1 (wideN_anyC l) [] []] (.fin [])) (T := (((cT Tryz.prog (wideN_anyC l) [])) ∧ (True ∧ (!(l.any wideN) : Bool) = (nums l)))) (by kernel_rfl)
    ⟨(Ct.Ok.t (wideN_any l)), ⟨trivial, rfl⟩⟩


def bigPut1C (p : Put) : Ct := ⟨112, [], [(V.agg (cPut p))], (.ret (V.lit (.bool (bigPut p)))), []⟩
theorem bigPut1 (p : Put) : Ct.Ok Tryz.prog (bigPut1C p) := by
  refine Fn.of' Tryz.func112 rfl (.reg 0 [] (.split (decide ((((p.Key).size : Int) : Int) > 16)) (.reg 1 [hV 3 (V.lit (.bool true))] (.fin [])) (.reg 1 [hV 3 (V.lit (.bool false))] (.fin [])))) (T := (((decide ((((p.Key).size : Int) : Int) > 16) : Bool) = true → (((decide ((((p.Key).size : Int) : Int) > 16) : Bool) = true) ∧ (True ∧ (true : Bool) = (bigPut p)))) ∧ ((decide ((((p.Key).size : Int) : Int) > 16) : Bool) = false → (((decide ((((p.Key).size : Int) : Int) > 16) : Bool) = false) ∧ (True ∧ (decide ((((p.Val).size : Int) : Int) > 32) : Bool) = (bigPut p)))))) (by kernel_rfl)
    ⟨fun h1 => ⟨h1, ⟨trivial, (by first | (simp_all [bigPut]; done) | (simp_all [bigPut]; omega))⟩⟩, fun h1 => ⟨h1, ⟨trivial, (by first | (simp_all [bigPut]; done) | (simp_all [bigPut]; omega))⟩⟩⟩

def bigPut_idx_d1 (l : List Put) : List (Nat × V) := [(0, (V.sl 3 (l.map cPut))), (1, (V.clo 112 [] [])), (7, (V.lit (.int .i64 ((l).length : Int))))]
def bigPut_idxC (l : List Put) : Ct := ⟨172, [], [(V.sl 3 (l.map cPut)), (V.clo 112 [] [])], (.ret (V.lit (.int .i64 (idxF bigPut l)))), []⟩
theorem bigPut_idx (l : List Put) : Ct.Ok Tryz.prog (bigPut_idxC l) := by
  refine Fn.of' Tryz.func172 rfl (.reg 0 [] (.bound 0 (.reg 1 [hV 1 (V.lit (.int .i64 ((l).length : Int)))] (.loop (l.findIdx bigPut) (fun i => ⟨19, (bigPut_idx_d1 l) ++ [(8, (V.lit (.int .i64 ((i : Nat) : Int))))], [], 1200⟩) (fun i => (.br (.reg 4 [hR 3 [(V.lit (.string ((l.getD (i : Nat) default).Key))), (V.lit (.string ((l.getD (i : Nat) default).Val))), (V.lit (.bool ((l.getD (i : Nat) default).Gone)))], hC 5 (bigPut1C (l.getD (i : Nat) default)) [] []] (.br (.fin []) .nil)) (.fin []))))))) (T := (((l.map cPut)).length ≤ 9223372036854775807 → (((IntKind.i64 = IntKind.i64 ∧ ((((l.map cPut)).length : Int) : Int) = ((l).length : Int))) ∧ (((sA (bigPut_idx_d1 l) ((IntKind.i64 = IntKind.i64 ∧ (0 : Int) = ((0 : Nat) : Int)) ∧ True)) ∧ True) ∧ (∀ i, i ≤ (l.findIdx bigPut) → (((decide ((((i : Nat) : Int) : Int) < ((l).length : Int)) : Bool) = true → ((((0 : Int) ≤ ((i : Nat) : Int) ∧ (l.map cPut)[(((i : Nat) : Int) : Int).toNat]? = some [(V.lit (.string ((l.getD (i : Nat) default).Key))), (V.lit (.string ((l.getD (i : Nat) default).Val))), (V.lit (.bool ((l.getD (i : Nat) default).Gone)))]) ∧ (cT Tryz.prog (bigPut1C (l.getD (i : Nat) default)) [])) ∧ ((((bigPut (l.getD (i : Nat) default)) : Bool) = true → (True ∧ (IntKind.i64 = IntKind.i64 ∧ (((i : Nat) : Int) : Int) = (idxF bigPut l)))) ∧ (((bigPut (l.getD (i : Nat) default)) : Bool) = false → (i < (l.findIdx bigPut) ∧ ((sA (bigPut_idx_d1 l) ((IntKind.i64 = IntKind.i64 ∧ (IntKind.wrap .i64 (((i : Nat) : Int) + 1) : Int) = (((i + 1) : Nat) : Int)) ∧ True)) ∧ True)))))) ∧ ((decide ((((i : Nat) : Int) : Int) < ((l).length : Int)) : Bool) = false → (True ∧ (IntKind.i64 = IntKind.i64 ∧ (-1 : Int) = (idxF bigPut l)))))))))) (by kernel_rfl)
    (fun hb1 => ⟨⟨rfl, (by simp)⟩, ⟨⟨(sA_of ⟨⟨rfl, rfl⟩, trivial⟩ _), trivial⟩, fun i hi2 => ⟨fun h3 => ⟨⟨⟨Int.natCast_nonneg _, row_at _ _ _ (by simp only [decide_eq_true_eq] at *; omega)⟩, (Ct.Ok.t (bigPut1 (l.getD (i : Nat) default)))⟩, ⟨fun h5 => ⟨trivial, ⟨rfl, ?q2⟩⟩, fun h5 => ⟨(fi_lt ‹_› (by simp only [decide_eq_true_eq] at *; omega) ‹_›), ⟨(sA_of ⟨⟨rfl, (by exact idx_step i l.length (by simp only [decide_eq_true_eq] at *; omega) (by simpa using hb1))⟩, trivial⟩ _), trivial⟩⟩⟩⟩, fun h3 => ⟨trivial, ⟨rfl, ?q5⟩⟩⟩⟩⟩)
  case q2 | q5 => first | (exact idxF_found ‹_› (by simp only [decide_eq_true_eq] at *; omega) ‹_›) | (exact idxF_none ‹_› (by simp only [decide_eq_false_iff_not] at *; omega))


def bigPut_anyC (l : List Put) : Ct := ⟨113, [], [(V.sl 3 (l.map cPut)), (V.clo 112 [] [])], (.ret (V.lit (.bool (l.any bigPut)))), []⟩
theorem bigPut_any (l : List Put) : Ct.Ok Tryz.prog (bigPut_anyC l) := by
  refine Fn.of' Tryz.func113 rfl (.reg 1 [hC 2 (bigPut_idxC l) [] []] (.fin [])) (T := (((cT Tryz.prog (bigPut_idxC l) [])) ∧ (True ∧ (decide (((idxF bigPut l) : Int) ≥ 0) : Bool) = (l.any bigPut)))) (by kernel_rfl)
    ⟨(Ct.Ok.t (bigPut_idx l)), ⟨trivial, (idxF_any _ _)⟩⟩

end Go.Proofs.Fw
