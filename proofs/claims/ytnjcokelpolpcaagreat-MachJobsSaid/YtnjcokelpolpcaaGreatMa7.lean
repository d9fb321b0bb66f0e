/- Contracts, by a program of mine (wip/gen). -/
import Derived.Test.YtnjcokelpolpcaaGreatMa6
set_option linter.unusedVariables false
set_option linter.unusedSimpArgs false
set_option maxRecDepth 100000
namespace Go.Proofs.Fw
open Go Go.RowKit M

def kindU (j : Job) : UInt64 := UInt64.ofNat (IntKind.wrap .u64 j.O.Kind).toNat
theorem kindU_eq (j : Job) : IntKind.wrap .u64 j.O.Kind = ((kindU j).toNat : Int) := by
  unfold kindU
  rw [UInt64.toNat_ofNat']
  have h : 0 ≤ IntKind.wrap .u64 j.O.Kind ∧ IntKind.wrap .u64 j.O.Kind < 18446744073709551616 := by simp [IntKind.wrap, IntKind.bits, IntKind.signed]; omega
  omega
def jobB (j : Job) : ByteArray := numsB [j.Client, j.Seq, kindU j] ++ txB j.O.T ++ textB j.O.Key ++ listB putB j.O.Puts ++ catB truthB [j.O.Commit] ++ listB numB1 j.O.Parts
theorem numsB_size : ∀ l, (numsB l).size ≤ 8 * l.length
  | [] => by simp [numsB, emp_size]
  | v :: l => by
    have h1 := numB_size v.toNat; have h2 := numsB_size l
    simp only [numsB, ByteArray.size_append, List.length_cons]; omega
theorem catB_size {α : Type} {f : α → ByteArray} {c : Nat} : ∀ {l : List α}, (∀ x ∈ l, (f x).size ≤ c) → (catB f l).size ≤ c * l.length
  | [], _ => by simp [catB, emp_size]
  | v :: l, h => by
    have h1 := h v (by simp); have h2 := catB_size (l := l) (fun x hx => h x (by simp [hx]))
    simp only [catB, ByteArray.size_append, List.length_cons, Nat.mul_succ]; omega
theorem textB_size (s : ByteArray) : (textB s).size ≤ 8 + s.size := by
  unfold textB
  split
  · simp [emp_size]
  · have := numB_size (lenU s).toNat; rw [ByteArray.size_append]; omega
theorem putB_size {p : Put} (h : bigPut p = false) : (putB p).size ≤ 72 := by
  have h1 := textB_size p.Key; have h2 := textB_size p.Val; have h3 := numsB_size [bU p.Gone]
  simp only [bigPut, Bool.or_eq_false_iff, decide_eq_false_iff_not] at h
  simp only [putB, truthB, ByteArray.size_append, List.length_cons, List.length_nil] at *; omega
theorem jobB_size {j : Job} (h : mayJob j = true) : (jobB j).size ≤ 2000 := by
  simp only [mayJob, mayRest, Bool.and_eq_true, Bool.not_eq_true', decide_eq_true_eq] at h
  obtain ⟨_, ⟨⟨⟨⟨⟨⟨⟨⟨⟨⟨⟨_, _⟩, _⟩, _⟩, hk⟩, hp⟩, hb⟩, hq⟩, _⟩, _⟩, _⟩, _⟩⟩ := h
  have h1 := numsB_size [j.Client, j.Seq, kindU j]; have h2 := numsB_size [j.O.T.Age, j.O.T.Id]; have h3 := textB_size j.O.Key
  have h4 : (catB putB j.O.Puts).size ≤ 72 * j.O.Puts.length := catB_size (fun x hx => putB_size (by
    cases hh : bigPut x with
    | false => rfl
    | true => rw [List.any_eq_true.2 ⟨x, hx, hh⟩] at hb; simp at hb))
  have h5 : (catB numB1 j.O.Parts).size ≤ 8 * j.O.Parts.length := catB_size (fun x _ => by have := numsB_size [x]; simpa [numB1] using this)
  have h6 := numsB_size [bU j.O.Commit]
  have h7 := numsB_size [cntU j.O.Puts.length]; have h8 := numsB_size [cntU j.O.Parts.length]
  simp only [jobB, txB, listB, catB, truthB, ByteArray.size_append, emp_size, List.length_cons, List.length_nil] at *; omega
theorem jobB_pos {j : Job} (h : mayJob j = true) : 0 < (jobB j).size := by
  have hs : ∀ v : UInt64, v.toNat < 4611686018427387904 → 0 < (numB v.toNat).size := by
    intro v hv
    unfold numB; (repeat' split) <;> simp [ByteArray.size] <;> omega
  simp only [mayJob, mayRest, nums, Bool.and_eq_true] at h
  obtain ⟨_, ⟨⟨⟨⟨⟨⟨⟨⟨⟨⟨⟨_, _⟩, hn⟩, _⟩, _⟩, _⟩, _⟩, _⟩, _⟩, _⟩, _⟩, _⟩⟩ := h
  have : wideN j.Client = false := by
    simp only [List.any_cons, Bool.not_eq_true', Bool.or_eq_false_iff] at hn; exact hn.1
  simp only [wideN, decide_eq_false_iff_not] at this
  have := hs j.Client (by omega)
  simp only [jobB, numsB, ByteArray.size_append]; omega


def Job_noC (j : Job) : Ct := ⟨11, [], [(V.agg (cJob j))], (.ret (V.tup [(V.lit (.string (⟨#[]⟩ : ByteArray))), (V.lit (.int .i64 1))])), []⟩
theorem Job_no (j : Job) (hc0 : ((mayJob j) : Bool) = false) : Ct.Ok Tryz.prog (Job_noC j) := by
  refine Fn.of' Tryz.func11 rfl (.reg 1 [hC 1 (mayJob_specC j) [] [], hV 2 (V.lit (.bool true))] (.fin [])) (T := (((cT Tryz.prog (mayJob_specC j) []) ∧ (!(mayJob j) : Bool) = true) ∧ (True ∧ (sV (V.tup [(V.lit (.string (⟨#[]⟩ : ByteArray))), (V.lit (.int .i64 1))]))))) (by kernel_rfl)
    ⟨⟨(Ct.Ok.t (mayJob_spec j)), (by rw [hc0]; rfl)⟩, ⟨trivial, (subV_refl _)⟩⟩


def Job_mayC (j : Job) : Ct := ⟨11, [], [(V.agg (cJob j))], (.ret (V.tup [(V.lit (.string (jobB j))), (V.lit (.int .i64 0))])), []⟩
theorem Job_may (j : Job) (hc0 : ((mayJob j) : Bool) = true) : Ct.Ok Tryz.prog (Job_mayC j) := by
  refine Fn.of' Tryz.func11 rfl (.reg 1 [hC 1 (mayJob_specC j) [] [], hV 2 (V.lit (.bool false))] (.reg 3 [] (.adopt 9000 5 1 [] [(1201, 1)] (.reg 4 [hV 8 (V.lit (.int .u64 ((kindU j).toNat : Int))), hC 10 (num_fresh3C (⟨#[]⟩ : ByteArray) j.Client j.Seq (kindU j)) [1201, 9000] [1309]] (.reg 5 [hC 4 (wtxC ((⟨#[]⟩ : ByteArray) ++ numsB [j.Client, j.Seq, (kindU j)]) j.O.T) [1201, 9000] []] (.reg 6 [hC 4 (wtextC (((⟨#[]⟩ : ByteArray) ++ numsB [j.Client, j.Seq, (kindU j)]) ++ txB j.O.T) j.O.Key) [1201, 9000] []] (.reg 7 [hC 6 (wlistPutC ((((⟨#[]⟩ : ByteArray) ++ numsB [j.Client, j.Seq, (kindU j)]) ++ txB j.O.T) ++ textB j.O.Key) j.O.Puts) [1201, 9000] []] (.reg 8 [hC 5 (wtruthC (((((⟨#[]⟩ : ByteArray) ++ numsB [j.Client, j.Seq, (kindU j)]) ++ txB j.O.T) ++ textB j.O.Key) ++ listB putB j.O.Puts) ([j.O.Commit])) [1201, 9000] [1704]] (.reg 9 [hC 5 (wlistU64C ((((((⟨#[]⟩ : ByteArray) ++ numsB [j.Client, j.Seq, (kindU j)]) ++ txB j.O.T) ++ textB j.O.Key) ++ listB putB j.O.Puts) ++ catB truthB ([j.O.Commit])) j.O.Parts) [1201, 9000, 1202] []] (.reg 10 [hC 3 (String_specC (((((((⟨#[]⟩ : ByteArray) ++ numsB [j.Client, j.Seq, (kindU j)]) ++ txB j.O.T) ++ textB j.O.Key) ++ listB putB j.O.Puts) ++ catB truthB ([j.O.Commit])) ++ listB numB1 j.O.Parts)) [1201, 9000] []] (.fin []))))))))))) (T := (((cT Tryz.prog (mayJob_specC j) []) ∧ (!(mayJob j) : Bool) = false) ∧ (((IntKind.u64 = IntKind.u64 ∧ (IntKind.wrap .u64 j.O.Kind : Int) = ((kindU j).toNat : Int)) ∧ (cA Tryz.prog (num_fresh3C (⟨#[]⟩ : ByteArray) j.Client j.Seq (kindU j)) (((sV (V.ptr 1201 0)) ∧ ((3 = ([[(V.lit (.int .u64 (j.Client.toNat : Int)))], [(V.lit (.int .u64 (j.Seq.toNat : Int)))], [(V.lit (.int .u64 ((kindU j).toNat : Int)))]]).length ∧ 1 = 1 ∧ ([[(V.lit (.int .u64 (j.Client.toNat : Int)))], [(V.lit (.int .u64 (j.Seq.toNat : Int)))], [(V.lit (.int .u64 ((kindU j).toNat : Int)))]]) = (([j.Client, j.Seq, (kindU j)]).map c_u64)) ∧ (sL []))) ∧ ((some (Ob.box 84 [(V.lit (Value.pointer none)), (V.sref 9000 0)]) : Option Ob) = some (Ob.box 84 [(V.lit (Value.pointer none)), (V.sref 9000 ((⟨#[]⟩ : ByteArray).size))]) ∧ ((some (Ob.row 5 1 ([] : List (List V)) true) : Option Ob) = some (Ob.row 5 1 (cBytes (⟨#[]⟩ : ByteArray)) true) ∧ True))))) ∧ (((cT Tryz.prog (wtxC ((⟨#[]⟩ : ByteArray) ++ numsB [j.Client, j.Seq, (kindU j)]) j.O.T) [1201, 9000])) ∧ (((cT Tryz.prog (wtextC (((⟨#[]⟩ : ByteArray) ++ numsB [j.Client, j.Seq, (kindU j)]) ++ txB j.O.T) j.O.Key) [1201, 9000])) ∧ (((cT Tryz.prog (wlistPutC ((((⟨#[]⟩ : ByteArray) ++ numsB [j.Client, j.Seq, (kindU j)]) ++ txB j.O.T) ++ textB j.O.Key) j.O.Puts) [1201, 9000])) ∧ (((cA Tryz.prog (wtruthC (((((⟨#[]⟩ : ByteArray) ++ numsB [j.Client, j.Seq, (kindU j)]) ++ txB j.O.T) ++ textB j.O.Key) ++ listB putB j.O.Puts) ([j.O.Commit])) (((sV (V.ptr 1201 0)) ∧ ((1 = ([[(V.lit (.bool j.O.Commit))]]).length ∧ 1 = 1 ∧ ([[(V.lit (.bool j.O.Commit))]]) = (([j.O.Commit]).map c_bool)) ∧ (sL []))) ∧ obsR [1201, 9000] (Ct.obs (wtruthC (((((⟨#[]⟩ : ByteArray) ++ numsB [j.Client, j.Seq, (kindU j)]) ++ txB j.O.T) ++ textB j.O.Key) ++ listB putB j.O.Puts) ([j.O.Commit]))) 0 true))) ∧ (((cT Tryz.prog (wlistU64C ((((((⟨#[]⟩ : ByteArray) ++ numsB [j.Client, j.Seq, (kindU j)]) ++ txB j.O.T) ++ textB j.O.Key) ++ listB putB j.O.Puts) ++ catB truthB ([j.O.Commit])) j.O.Parts) [1201, 9000, 1202])) ∧ (((cT Tryz.prog (String_specC (((((((⟨#[]⟩ : ByteArray) ++ numsB [j.Client, j.Seq, (kindU j)]) ++ txB j.O.T) ++ textB j.O.Key) ++ listB putB j.O.Puts) ++ catB truthB ([j.O.Commit])) ++ listB numB1 j.O.Parts)) [1201, 9000])) ∧ (True ∧ (((((((((⟨#[]⟩ : ByteArray) ++ numsB [j.Client, j.Seq, (kindU j)]) ++ txB j.O.T) ++ textB j.O.Key) ++ listB putB j.O.Puts) ++ catB truthB ([j.O.Commit])) ++ listB numB1 j.O.Parts) : ByteArray) = (jobB j) ∧ (sL [(V.lit (.int .i64 0))])))))))))))) (by kernel_rfl)
    ⟨⟨(Ct.Ok.t (mayJob_spec j)), (by rw [hc0]; rfl)⟩, ⟨⟨⟨rfl, (kindU_eq j)⟩, (Ct.Ok.a (num_fresh3 (⟨#[]⟩ : ByteArray) j.Client j.Seq (kindU j) ?q1) ⟨⟨(subV_refl _), ⟨⟨(by first | (simp; done) | rfl | (simp; omega)), rfl, (by first | (simp; done) | rfl)⟩, (subL_refl _)⟩⟩, ⟨(by first | (simp; done) | rfl), ⟨(by first | (simp; done) | rfl), trivial⟩⟩⟩)⟩, ⟨(Ct.Ok.t (wtx ((⟨#[]⟩ : ByteArray) ++ numsB [j.Client, j.Seq, (kindU j)]) j.O.T ?q6)), ⟨(Ct.Ok.t (wtext (((⟨#[]⟩ : ByteArray) ++ numsB [j.Client, j.Seq, (kindU j)]) ++ txB j.O.T) j.O.Key ?q7)), ⟨(Ct.Ok.t (wlistPut ((((⟨#[]⟩ : ByteArray) ++ numsB [j.Client, j.Seq, (kindU j)]) ++ txB j.O.T) ++ textB j.O.Key) j.O.Puts ?q8)), ⟨(Ct.Ok.a (wtruth (((((⟨#[]⟩ : ByteArray) ++ numsB [j.Client, j.Seq, (kindU j)]) ++ txB j.O.T) ++ textB j.O.Key) ++ listB putB j.O.Puts) ([j.O.Commit]) ?q9) ⟨⟨(subV_refl _), ⟨⟨(by first | (simp; done) | rfl | (simp; omega)), rfl, (by first | (simp; done) | rfl)⟩, (subL_refl _)⟩⟩, obsR_of _ _ _ _⟩), ⟨(Ct.Ok.t (wlistU64 ((((((⟨#[]⟩ : ByteArray) ++ numsB [j.Client, j.Seq, (kindU j)]) ++ txB j.O.T) ++ textB j.O.Key) ++ listB putB j.O.Puts) ++ catB truthB ([j.O.Commit])) j.O.Parts ?q12)), ⟨(Ct.Ok.t (String_spec (((((((⟨#[]⟩ : ByteArray) ++ numsB [j.Client, j.Seq, (kindU j)]) ++ txB j.O.T) ++ textB j.O.Key) ++ listB putB j.O.Puts) ++ catB truthB ([j.O.Commit])) ++ listB numB1 j.O.Parts) ?q13 ?q14)), ⟨trivial, ⟨(by first | rfl | (simp only [jobB, emp_app, ByteArray.append_assoc]; done)), (subL_refl _)⟩⟩⟩⟩⟩⟩⟩⟩⟩⟩
  case q1 | q6 | q7 | q8 | q9 | q12 | q13 | q14 => first | (have hj := jobB_size hc0; have hj2 := jobB_pos hc0; simp only [jobB, txB, listB, catB, truthB, numsB, numB1, ByteArray.size_append, emp_size] at *; omega)

end Go.Proofs.Fw
