/- Lists: what searches, deletions come to. -/
import Derived.Test.YtnjcokelpolpcaaGreatFwQ
set_option linter.unusedVariables false
set_option linter.unusedSimpArgs false
namespace Go.Proofs.Fw
open Go Go.RowKit
theorem row_at {α : Type} [Inhabited α] (c : α → List V) (l : List α) (i : Nat) (h : i < l.length) : (l.map c)[i]? = some (c (l.getD i default)) := by
  rw [List.getElem?_map, List.getD_eq_getElem?_getD, List.getElem?_eq_getElem h]; rfl
theorem emp_app (s : ByteArray) : (⟨#[]⟩ : ByteArray) ++ s = s := ByteArray.ext (by simp)
theorem app_emp (s : ByteArray) : s ++ (⟨#[]⟩ : ByteArray) = s := ByteArray.ext (by simp)
theorem emp_size : (⟨#[]⟩ : ByteArray).size = 0 := rfl
theorem take_succ_D {α : Type} [Inhabited α] {l : List α} {i : Nat} (h : i < l.length) : l.take (i + 1) = l.take i ++ [l.getD i default] := by
  rw [List.take_succ_eq_append_getElem h, List.getD_eq_getElem?_getD, List.getElem?_eq_getElem h]; rfl
theorem idx_step (i : Nat) (n : Nat) (h : i < n) (hn : n ≤ 9223372036854775807) : IntKind.wrap .i64 (((i : Nat) : Int) + 1) = ((i + 1 : Nat) : Int) := by
  rw [wrapI _ (by omega) (by omega)]; rfl
def idxF {α : Type} (p : α → Bool) (l : List α) : Int := if l.findIdx p < l.length then (l.findIdx p : Int) else -1
theorem fi_eq {α : Type} [Inhabited α] {p : α → Bool} {l : List α} {i : Nat} (h1 : i ≤ l.findIdx p) (h2 : i < l.length) (h3 : p (l.getD i default) = true) : i = l.findIdx p := by
  rcases Nat.lt_or_ge i (l.findIdx p) with h | h
  · have := List.not_of_lt_findIdx h
    rw [List.getD_eq_getElem?_getD, List.getElem?_eq_getElem h2, Option.getD_some] at h3
    exact absurd h3 (by simpa using this)
  · omega
theorem fi_lt {α : Type} [Inhabited α] {p : α → Bool} {l : List α} {i : Nat} (h1 : i ≤ l.findIdx p) (h2 : i < l.length) (h3 : p (l.getD i default) = false) : i < l.findIdx p := by
  rcases Nat.lt_or_ge i (l.findIdx p) with h | h
  · exact h
  · have e : i = l.findIdx p := by omega
    subst e
    have := List.findIdx_getElem (w := h2)
    rw [List.getD_eq_getElem?_getD, List.getElem?_eq_getElem h2] at h3
    simp [this] at h3
theorem idxF_found {α : Type} [Inhabited α] {p : α → Bool} {l : List α} {i : Nat} (h1 : i ≤ l.findIdx p) (h2 : i < l.length) (h3 : p (l.getD i default) = true) : ((i : Nat) : Int) = idxF p l := by
  have e := fi_eq h1 h2 h3
  unfold idxF; rw [if_pos (by omega), ← e]
theorem idxF_none {α : Type} {p : α → Bool} {l : List α} {i : Nat} (h1 : i ≤ l.findIdx p) (h2 : ¬ i < l.length) : (-1 : Int) = idxF p l := by
  unfold idxF; rw [if_neg (by omega)]
theorem idxF_any {α : Type} (p : α → Bool) (l : List α) : decide (idxF p l ≥ 0) = l.any p := by
  unfold idxF
  by_cases h : l.findIdx p < l.length
  · rw [if_pos h]
    have h2 : ∃ x ∈ l, p x = true := List.findIdx_lt_length.1 h
    have : l.any p = true := List.any_eq_true.2 h2
    rw [this]; simp
  · rw [if_neg h]
    have : ¬ ∃ x ∈ l, p x = true := fun h2 => h (List.findIdx_lt_length.2 h2)
    have : l.any p = false := by
      cases hh : l.any p with
      | false => rfl
      | true => exact absurd (List.any_eq_true.1 hh) this
    rw [this]; rfl
theorem idxF_in {α : Type} {p : α → Bool} {l : List α} (h : 0 ≤ idxF p l) : 0 ≤ idxF p l ∧ idxF p l < (l.length : Int) := by
  refine ⟨h, ?_⟩
  unfold idxF at h ⊢
  split at h <;> split <;> omega
theorem idxF_nat {α : Type} {p : α → Bool} {l : List α} (h : idxF p l ≠ -1) : idxF p l = ((l.findIdx p : Nat) : Int) ∧ l.findIdx p < l.length := by
  unfold idxF at h ⊢
  split <;> simp_all
theorem idxF_ge {α : Type} (p : α → Bool) (l : List α) : -1 ≤ idxF p l := by unfold idxF; split <;> omega
theorem getD_mem {α : Type} [Inhabited α] {l : List α} {i : Nat} (h : i < l.length) : l.getD i default = l[i] := by
  rw [List.getD_eq_getElem?_getD, List.getElem?_eq_getElem h]; rfl

/-! ### what is deleted -/
/-- The list under way, and how many stay, behind so many rounds. -/
def delS {α : Type} [Inhabited α] (p : α → Bool) (l : List α) : Nat → List α × Nat
  | 0 => (l, l.findIdx p)
  | k + 1 => bif p ((delS p l k).1.getD (l.findIdx p + 1 + k) default) then delS p l k else ((delS p l k).1.set (delS p l k).2 ((delS p l k).1.getD (l.findIdx p + 1 + k) default), (delS p l k).2 + 1)
theorem delS_len {α : Type} [Inhabited α] (p : α → Bool) (l : List α) : ∀ k, (delS p l k).1.length = l.length
  | 0 => rfl
  | k + 1 => by
    have := delS_len p l k
    simp only [delS]; cases p ((delS p l k).1.getD (l.findIdx p + 1 + k) default) <;> simp [this]
theorem delS_inv {α : Type} [Inhabited α] (p : α → Bool) (l : List α) (h0 : l.findIdx p < l.length) : ∀ k, l.findIdx p + 1 + k ≤ l.length →
    (delS p l k).2 < l.findIdx p + 1 + k ∧ (delS p l k).1.take (delS p l k).2 = (l.take (l.findIdx p + 1 + k)).filter (fun x => !p x) ∧ (delS p l k).1.drop (l.findIdx p + 1 + k) = l.drop (l.findIdx p + 1 + k)
  | 0, hk => by
    refine ⟨Nat.lt_succ_self _, ?_, rfl⟩
    simp only [delS, Nat.add_zero]
    rw [List.take_succ_eq_append_getElem h0, List.filter_append]
    have e1 : (l.take (l.findIdx p)).filter (fun x => !p x) = l.take (l.findIdx p) := by
      rw [List.filter_eq_self]
      intro x hx
      obtain ⟨i, hi, rfl⟩ := List.mem_iff_getElem.1 hx
      rw [List.length_take] at hi
      have := List.not_of_lt_findIdx (p := p) (xs := l) (i := i) (by omega)
      rw [List.getElem_take]; simpa using this
    have e2 := List.findIdx_getElem (w := h0) (p := p)
    rw [e1]; simp [e2]
  | k + 1, hk => by
    obtain ⟨h1, h2, h3⟩ := delS_inv p l h0 k (by omega)
    have hj : l.findIdx p + 1 + k < l.length := by omega
    have hlen := delS_len p l k
    have hx : (delS p l k).1.getD (l.findIdx p + 1 + k) default = l[l.findIdx p + 1 + k] := by
      have : (delS p l k).1[l.findIdx p + 1 + k]? = l[l.findIdx p + 1 + k]? := by
        have e := congrArg (fun z => z[0]?) h3
        simpa [List.getElem?_drop] using e
      rw [List.getD_eq_getElem?_getD, this, List.getElem?_eq_getElem hj]; rfl
    have hd : (delS p l k).1.drop (l.findIdx p + 1 + k + 1) = l.drop (l.findIdx p + 1 + k + 1) := by
      have e := congrArg (List.drop 1) h3
      simpa [List.drop_drop, Nat.add_comm] using e
    have ht : l.take (l.findIdx p + 1 + (k + 1)) = l.take (l.findIdx p + 1 + k) ++ [l[l.findIdx p + 1 + k]] := by
      rw [show l.findIdx p + 1 + (k + 1) = l.findIdx p + 1 + k + 1 from rfl, List.take_succ_eq_append_getElem hj]
    simp only [delS, hx]
    cases hp : p l[l.findIdx p + 1 + k] with
    | true =>
      refine ⟨by simp only [cond_true]; omega, ?_, ?_⟩
      · simp only [cond_true, ht, List.filter_append, h2]; simp [hp]
      · simp only [cond_true]; exact hd
    | false =>
      simp only [cond_false]
      refine ⟨by omega, ?_, ?_⟩
      · have h4 : (delS p l k).2 < (delS p l k).1.length := by omega
        rw [ht, List.filter_append, ← h2, List.take_succ_eq_append_getElem (by simpa using h4), List.take_set_of_le (Nat.le_refl _)]
        simp [hp]
      · rw [List.drop_set_of_lt (by omega)]; exact hd
theorem delS_all {α : Type} [Inhabited α] {p : α → Bool} {l : List α} (h0 : l.findIdx p < l.length) : (delS p l (l.length - (l.findIdx p + 1))).2 ≤ l.length ∧ (delS p l (l.length - (l.findIdx p + 1))).1.take (delS p l (l.length - (l.findIdx p + 1))).2 = l.filter (fun x => !p x) := by
  obtain ⟨h1, h2, _⟩ := delS_inv p l h0 (l.length - (l.findIdx p + 1)) (by omega)
  refine ⟨by omega, ?_⟩
  rw [h2, List.take_of_length_le (by omega)]
theorem filter_all {α : Type} {p : α → Bool} {l : List α} (h : idxF p l = -1) : l = l.filter (fun x => !p x) := by
  symm
  rw [List.filter_eq_self]
  intro x hx
  cases hp : p x with
  | false => rfl
  | true =>
    have : l.findIdx p < l.length := List.findIdx_lt_length.2 ⟨x, hx, hp⟩
    unfold idxF at h; rw [if_pos this] at h; omega
end Go.Proofs.Fw
