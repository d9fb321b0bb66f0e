/- Contracts, by a program of mine (wip/gen). -/
import Derived.Test.YtnjcokelpolpcaaGreatMa2
set_option linter.unusedVariables false
set_option linter.unusedSimpArgs false
set_option maxRecDepth 100000
namespace Go.Proofs.Fw
open Go Go.RowKit M


def numsB : List UInt64 → ByteArray
  | [] => ⟨#[]⟩
  | v :: l => numB v.toNat ++ numsB l
theorem numsB_app : ∀ a b, numsB (a ++ b) = numsB a ++ numsB b
  | [], b => by simp only [numsB, List.nil_append, emp_app]
  | v :: a, b => by simp only [numsB, List.cons_append, numsB_app a b, ByteArray.append_assoc]
theorem numsB_take {l : List UInt64} {i : Nat} (h : i < l.length) : numsB (l.take (i + 1)) = numsB (l.take i) ++ numB (l.getD i default).toNat := by
  rw [take_succ_D h, numsB_app]; simp only [numsB, app_emp]
theorem numsB_le (l : List UInt64) (i : Nat) : (numsB (l.take i)).size ≤ (numsB l).size := by
  have := numsB_app (l.take i) (l.drop i)
  rw [List.take_append_drop] at this
  rw [this, ByteArray.size_append]; omega


def copyCheck_freshC (bs : ByteArray) : Ct := ⟨139, [(Ob.box 84 [(V.lit (Value.pointer none)), (V.sref 1 bs.size)]), (Ob.row 5 1 (cBytes bs) true)], [(V.ptr 0 0)], (.ret (V.tup [])), [(Ob.box 84 [(V.ptr 0 0), (V.sref 1 bs.size)]), (Ob.row 5 1 (cBytes bs) true)]⟩
theorem copyCheck_fresh (bs : ByteArray) : Ct.Ok Tryz.prog (copyCheck_freshC bs) := by
  refine Fn.of' Tryz.func139 rfl (.fin [0, 1]) (T := ((obsR [0, 1] (Ct.obs' (copyCheck_freshC bs)) 0 true) ∧ (sV (V.tup [])))) (by kernel_rfl)
    ⟨(obsR_of _ _ _ _), (subV_refl _)⟩


def WriteString_freshC (bs : ByteArray) (s : ByteArray) : Ct := ⟨75, [(Ob.box 84 [(V.lit (Value.pointer none)), (V.sref 1 bs.size)]), (Ob.row 5 1 (cBytes bs) true)], [(V.ptr 0 0), (V.lit (.string s))], (.ret (V.tup [(V.lit (.int .i64 (s.size : Int))), (V.lit (Value.nilIface))])), [(Ob.box 84 [(V.ptr 0 0), (V.sref 1 ((bs ++ s).size))]), (Ob.row 5 1 (cBytes (bs ++ s)) true)]⟩
theorem WriteString_fresh (bs : ByteArray) (s : ByteArray) (hp0 : (bs ++ s).size ≤ 140737488355328) : Ct.Ok Tryz.prog (WriteString_freshC bs s) := by
  refine Fn.of' Tryz.func75 rfl (.reg 1 [hC 1 (copyCheck_freshC bs) [0, 1] []] (.reg 3 [] (.weak ⟨19, [(4, (V.lit (.int .i64 ((s).size : Int)))), (5, (V.lit (Value.nilIface)))], [(0, (Ob.box 84 [(V.ptr 0 0), (V.sref 1 ((bs ++ s).size))])), (1, (Ob.row 5 1 (cBytes (bs ++ s)) true))], 1400⟩ (.fin [0, 1])))) (T := (((cT Tryz.prog (copyCheck_freshC bs) [0, 1])) ∧ (((bs.size = (cBytes bs).length ∧ (cBytes bs).length + (s).size ≤ 140737488355328)) ∧ ((((sV (V.lit (.int .i64 ((s).size : Int)))) ∧ ((sV (V.lit (Value.nilIface))) ∧ True)) ∧ ((84 = 84 ∧ ((sV (V.ptr 0 0)) ∧ ((1 = 1 ∧ (bs.size + (s).size) = ((bs ++ s).size)) ∧ (sL [])))) ∧ ((5 = 5 ∧ 1 = 1 ∧ (cBytes bs ++ cBytes s) = (cBytes (bs ++ s)) ∧ true = true) ∧ True))) ∧ ((obsR [0, 1] (Ct.obs' (WriteString_freshC bs s)) 0 true) ∧ ((IntKind.i64 = IntKind.i64 ∧ (((s).size : Int) : Int) = (s.size : Int)) ∧ (sL [(V.lit (Value.nilIface))]))))))) (by kernel_rfl)
    ⟨(Ct.Ok.t (copyCheck_fresh bs)), ⟨⟨(by first | (simp [cBytes_length]; done) | rfl), (by rw [ByteArray.size_append] at hp0; simp [cBytes_length]; omega)⟩, ⟨⟨⟨(subV_refl _), ⟨(subV_refl _), trivial⟩⟩, ⟨⟨rfl, ⟨(subV_refl _), ⟨⟨rfl, ?q2⟩, (subL_refl _)⟩⟩⟩, ⟨⟨rfl, rfl, ?q3, rfl⟩, trivial⟩⟩⟩, ⟨(obsR_of _ _ _ _), ⟨⟨rfl, ?q4⟩, (subL_refl _)⟩⟩⟩⟩⟩
  case q2 | q3 | q4 => first | rfl | (simp [cBytes_append, ByteArray.size_append]; done)


def copyCheck_usedC (bs : ByteArray) : Ct := ⟨139, [(Ob.box 84 [(V.ptr 0 0), (V.sref 1 bs.size)]), (Ob.row 5 1 (cBytes bs) true)], [(V.ptr 0 0)], (.ret (V.tup [])), [(Ob.box 84 [(V.ptr 0 0), (V.sref 1 bs.size)]), (Ob.row 5 1 (cBytes bs) true)]⟩
theorem copyCheck_used (bs : ByteArray) : Ct.Ok Tryz.prog (copyCheck_usedC bs) := by
  refine Fn.of' Tryz.func139 rfl (.fin [0, 1]) (T := ((obsR [0, 1] (Ct.obs' (copyCheck_usedC bs)) 0 true) ∧ (sV (V.tup [])))) (by kernel_rfl)
    ⟨(obsR_of _ _ _ _), (subV_refl _)⟩


def WriteString_usedC (bs : ByteArray) (s : ByteArray) : Ct := ⟨75, [(Ob.box 84 [(V.ptr 0 0), (V.sref 1 bs.size)]), (Ob.row 5 1 (cBytes bs) true)], [(V.ptr 0 0), (V.lit (.string s))], (.ret (V.tup [(V.lit (.int .i64 (s.size : Int))), (V.lit (Value.nilIface))])), [(Ob.box 84 [(V.ptr 0 0), (V.sref 1 ((bs ++ s).size))]), (Ob.row 5 1 (cBytes (bs ++ s)) true)]⟩
theorem WriteString_used (bs : ByteArray) (s : ByteArray) (hp0 : (bs ++ s).size ≤ 140737488355328) : Ct.Ok Tryz.prog (WriteString_usedC bs s) := by
  refine Fn.of' Tryz.func75 rfl (.reg 1 [hC 1 (copyCheck_usedC bs) [0, 1] []] (.reg 3 [] (.weak ⟨19, [(4, (V.lit (.int .i64 ((s).size : Int)))), (5, (V.lit (Value.nilIface)))], [(0, (Ob.box 84 [(V.ptr 0 0), (V.sref 1 ((bs ++ s).size))])), (1, (Ob.row 5 1 (cBytes (bs ++ s)) true))], 1400⟩ (.fin [0, 1])))) (T := (((cT Tryz.prog (copyCheck_usedC bs) [0, 1])) ∧ (((bs.size = (cBytes bs).length ∧ (cBytes bs).length + (s).size ≤ 140737488355328)) ∧ ((((sV (V.lit (.int .i64 ((s).size : Int)))) ∧ ((sV (V.lit (Value.nilIface))) ∧ True)) ∧ ((84 = 84 ∧ ((sV (V.ptr 0 0)) ∧ ((1 = 1 ∧ (bs.size + (s).size) = ((bs ++ s).size)) ∧ (sL [])))) ∧ ((5 = 5 ∧ 1 = 1 ∧ (cBytes bs ++ cBytes s) = (cBytes (bs ++ s)) ∧ true = true) ∧ True))) ∧ ((obsR [0, 1] (Ct.obs' (WriteString_usedC bs s)) 0 true) ∧ ((IntKind.i64 = IntKind.i64 ∧ (((s).size : Int) : Int) = (s.size : Int)) ∧ (sL [(V.lit (Value.nilIface))]))))))) (by kernel_rfl)
    ⟨(Ct.Ok.t (copyCheck_used bs)), ⟨⟨(by first | (simp [cBytes_length]; done) | rfl), (by rw [ByteArray.size_append] at hp0; simp [cBytes_length]; omega)⟩, ⟨⟨⟨(subV_refl _), ⟨(subV_refl _), trivial⟩⟩, ⟨⟨rfl, ⟨(subV_refl _), ⟨⟨rfl, ?q2⟩, (subL_refl _)⟩⟩⟩, ⟨⟨rfl, rfl, ?q3, rfl⟩, trivial⟩⟩⟩, ⟨(obsR_of _ _ _ _), ⟨⟨rfl, ?q4⟩, (subL_refl _)⟩⟩⟩⟩⟩
  case q2 | q3 | q4 => first | rfl | (simp [cBytes_append, ByteArray.size_append]; done)


def String_specC (bs : ByteArray) : Ct := ⟨35, [(Ob.box 84 [(V.ptr 0 0), (V.sref 1 bs.size)]), (Ob.row 5 1 (cBytes bs) true)], [(V.ptr 0 0)], (.ret (V.lit (.string bs))), [(Ob.box 84 [(V.ptr 0 0), (V.sref 1 bs.size)]), Ob.gone]⟩
theorem String_spec (bs : ByteArray) (hp0 : 0 < bs.size) (hp1 : bs.size ≤ 140737488355328) : Ct.Ok Tryz.prog (String_specC bs) := by
  refine Fn.of' Tryz.func35 rfl (.reg 1 [hV 10 (V.lit (.string bs))] (.fin [0, 1])) (T := (((bs.size = (cBytes bs).length ∧ 0 < bs.size) ∧ bs.size = (cBytes bs).length ∧ (bs.size = (cBytes bs).length ∧ (((bs.size : Nat) : Int) : Int) = ((bs.size : Nat) : Int) ∧ 0 < bs.size ∧ bs.size ≤ 9223372036854775807 ∧ cBytes bs = cBytes bs)) ∧ ((obsR [0, 1] (Ct.obs' (String_specC bs)) 0 true) ∧ (sV (V.lit (.string bs)))))) (by kernel_rfl)
    ⟨⟨⟨(by first | (simp [cBytes_length]; done) | rfl), (by omega)⟩, (by first | rfl | (simp [cBytes_length]; done) | (simp; omega)), ⟨(by first | (simp [cBytes_length]; done) | rfl), rfl, (by omega), (by omega), (by first | rfl | (simp only [cBytes_append]; done) | (simp only [cBytes_append, List.append_assoc]; done))⟩⟩, ⟨(obsR_of _ _ _ _), (subV_refl _)⟩⟩

def num_used_d1 (bs : ByteArray) (l : List UInt64) : List (Nat × V) := [(0, (V.ptr 0 0)), (8, (V.sl 1 (l.map c_u64))), (9, (V.lit (.int .i64 ((l).length : Int))))]
def num_usedC (bs : ByteArray) (l : List UInt64) : Ct := ⟨27, [(Ob.box 84 [(V.ptr 0 0), (V.sref 1 bs.size)]), (Ob.row 5 1 (cBytes bs) true)], [(V.ptr 0 0), (V.sl 1 (l.map c_u64))], (.ret (V.tup [])), [(Ob.box 84 [(V.ptr 0 0), (V.sref 1 ((bs ++ numsB l).size))]), (Ob.row 5 1 (cBytes (bs ++ numsB l)) true)]⟩
theorem num_used (bs : ByteArray) (l : List UInt64) (hp0 : (bs ++ numsB l).size ≤ 140737488355328) : Ct.Ok Tryz.prog (num_usedC bs l) := by
  refine Fn.of' Tryz.func27 rfl (.bound 1 (.reg 0 [hV 1 (V.lit (.int .i64 ((l).length : Int)))] (.loop l.length (fun i => ⟨25, (num_used_d1 bs l) ++ [(10, (V.lit (.int .i64 ((i : Nat) : Int))))], [(0, (Ob.box 84 [(V.ptr 0 0), (V.sref 1 ((bs ++ numsB (l.take i)).size))])), (1, (Ob.row 5 1 (cBytes (bs ++ numsB (l.take i))) true))], 1100⟩) (fun i => (.br (.reg 2 [hR 0 [(V.lit (.int .u64 ((l.getD (i : Nat) default).toNat : Int)))]] (.reg 3 [hC 1 (Num_specC (l.getD (i : Nat) default)) [] []] (.reg 4 [hC 4 (WriteString_usedC (bs ++ numsB (l.take i)) (numB (l.getD (i : Nat) default).toNat)) [0, 1] []] .nil))) (.weak ⟨25, [], [(0, (Ob.box 84 [(V.ptr 0 0), (V.sref 1 ((bs ++ numsB l).size))])), (1, (Ob.row 5 1 (cBytes (bs ++ numsB l)) true))], 1200⟩ (.fin [0, 1]))))))) (T := (((l.map c_u64)).length ≤ 9223372036854775807 → (((IntKind.i64 = IntKind.i64 ∧ ((((l.map c_u64)).length : Int) : Int) = ((l).length : Int))) ∧ (((sA (num_used_d1 bs l) ((IntKind.i64 = IntKind.i64 ∧ (0 : Int) = ((0 : Nat) : Int)) ∧ True)) ∧ ((84 = 84 ∧ ((sV (V.ptr 0 0)) ∧ ((1 = 1 ∧ bs.size = ((bs ++ numsB (l.take 0)).size)) ∧ (sL [])))) ∧ ((5 = 5 ∧ 1 = 1 ∧ (cBytes bs) = (cBytes (bs ++ numsB (l.take 0))) ∧ true = true) ∧ True))) ∧ (∀ i, i ≤ l.length → (((decide ((((i : Nat) : Int) : Int) < ((l).length : Int)) : Bool) = true → ((((0 : Int) ≤ ((i : Nat) : Int) ∧ (l.map c_u64)[(((i : Nat) : Int) : Int).toNat]? = some [(V.lit (.int .u64 ((l.getD (i : Nat) default).toNat : Int)))])) ∧ (((cT Tryz.prog (Num_specC (l.getD (i : Nat) default)) [])) ∧ (((cT Tryz.prog (WriteString_usedC (bs ++ numsB (l.take i)) (numB (l.getD (i : Nat) default).toNat)) [0, 1])) ∧ (i < l.length ∧ ((sA (num_used_d1 bs l) ((IntKind.i64 = IntKind.i64 ∧ (IntKind.wrap .i64 (((i : Nat) : Int) + 1) : Int) = (((i + 1) : Nat) : Int)) ∧ True)) ∧ ((84 = 84 ∧ ((sV (V.ptr 0 0)) ∧ ((1 = 1 ∧ (((bs ++ numsB (l.take i)) ++ (numB (l.getD (i : Nat) default).toNat)).size) = ((bs ++ numsB (l.take (i + 1))).size)) ∧ (sL [])))) ∧ ((5 = 5 ∧ 1 = 1 ∧ (cBytes ((bs ++ numsB (l.take i)) ++ (numB (l.getD (i : Nat) default).toNat))) = (cBytes (bs ++ numsB (l.take (i + 1)))) ∧ true = true) ∧ True)))))))) ∧ ((decide ((((i : Nat) : Int) : Int) < ((l).length : Int)) : Bool) = false → ((True ∧ ((84 = 84 ∧ ((sV (V.ptr 0 0)) ∧ ((1 = 1 ∧ ((bs ++ numsB (l.take i)).size) = ((bs ++ numsB l).size)) ∧ (sL [])))) ∧ ((5 = 5 ∧ 1 = 1 ∧ (cBytes (bs ++ numsB (l.take i))) = (cBytes (bs ++ numsB l)) ∧ true = true) ∧ True))) ∧ ((obsR [0, 1] (Ct.obs' (num_usedC bs l)) 0 true) ∧ (sV (V.tup []))))))))))) (by kernel_rfl)
    (fun hb1 => ⟨⟨rfl, (by simp)⟩, ⟨⟨(sA_of ⟨⟨rfl, (by simp [numsB, app_emp])⟩, trivial⟩ _), ⟨⟨rfl, ⟨(subV_refl _), ⟨⟨rfl, (by simp [numsB, app_emp])⟩, (subL_refl _)⟩⟩⟩, ⟨⟨rfl, rfl, (by simp [numsB, app_emp]), rfl⟩, trivial⟩⟩⟩, fun i hi2 => ⟨fun h3 => ⟨⟨Int.natCast_nonneg _, row_at _ _ _ (by simp only [decide_eq_true_eq] at *; omega)⟩, ⟨(Ct.Ok.t (Num_spec (l.getD (i : Nat) default))), ⟨(Ct.Ok.t (WriteString_used (bs ++ numsB (l.take i)) (numB (l.getD (i : Nat) default).toNat) (by first | assumption | (rw [ByteArray.append_assoc, ← numsB_take (by simp only [decide_eq_true_eq] at *; omega)]; have := numsB_le l (i + 1); simp only [ByteArray.size_append] at *; omega)))), ⟨(by simp only [decide_eq_true_eq] at *; omega), ⟨(sA_of ⟨⟨rfl, ?q7⟩, trivial⟩ _), ⟨⟨rfl, ⟨(subV_refl _), ⟨⟨rfl, ?q8⟩, (subL_refl _)⟩⟩⟩, ⟨⟨rfl, rfl, ?q9, rfl⟩, trivial⟩⟩⟩⟩⟩⟩⟩, fun h3 => ⟨⟨trivial, ⟨⟨rfl, ⟨(subV_refl _), ⟨⟨rfl, ?q10⟩, (subL_refl _)⟩⟩⟩, ⟨⟨rfl, rfl, ?q11, rfl⟩, trivial⟩⟩⟩, ⟨(obsR_of _ _ _ _), (subV_refl _)⟩⟩⟩⟩⟩)
  case q7 | q8 | q9 => first | (exact idx_step i l.length (by simp only [decide_eq_true_eq] at *; omega) (by simpa using hb1)) | (rw [numsB_take (by simp only [decide_eq_true_eq] at *; omega), ByteArray.append_assoc]; done) | (rw [numsB_take (by simp only [decide_eq_true_eq] at *; omega), ← ByteArray.append_assoc]; done)
  case q10 | q11 => have e : i = l.length := (by simp only [decide_eq_false_iff_not] at *; omega); subst e; simp [List.take_length]

end Go.Proofs.Fw
