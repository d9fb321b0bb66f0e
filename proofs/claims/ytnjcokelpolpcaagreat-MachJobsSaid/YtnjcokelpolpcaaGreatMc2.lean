import Derived.Test.YtnjcokelpolpcaaGreatMb2
/- The job of bytes, plainly: what the program's reader and the document's one take alike. -/
set_option linter.unusedVariables false
set_option linter.unusedSimpArgs false
set_option maxRecDepth 100000
namespace Go.Proofs.Fw
open Go Go.RowKit M

/-! ### readers -/
def pNum (s : ByteArray) : Option (UInt64 × ByteArray) := bif decide ((takeNum s).2.2 = 0) then some ((takeNum s).1, (takeNum s).2.1) else none
def pText (s : ByteArray) : Option (ByteArray × ByteArray) := bif decide ((takeText s).2.2 = 0) then some ((takeText s).1, (takeText s).2.1) else none
def pSmall (m : Nat) (s : ByteArray) : Option (Int × ByteArray) := (pNum s).bind fun x => bif decide (x.1.toNat ≤ m) then some (IntKind.wrap .i64 (x.1.toNat : Int), x.2) else none
def pTruth (s : ByteArray) : Option (Bool × ByteArray) := (pNum s).bind fun x => bif decide (x.1.toNat ≤ 1) then some (decide (x.1.toNat = 1), x.2) else none
def pTx (s : ByteArray) : Option (Tx × ByteArray) := (pNum s).bind fun x => (pNum x.2).bind fun y => some (⟨x.1, y.1⟩, y.2)
def pPut (s : ByteArray) : Option (Put × ByteArray) := (pText s).bind fun x => (pText x.2).bind fun y => (pTruth y.2).bind fun z => some (⟨x.1, y.1, z.1⟩, z.2)
def pRep {α : Type} (p : ByteArray → Option (α × ByteArray)) : Nat → ByteArray → List α → Option (List α × ByteArray)
  | 0, s, l => some (l, s)
  | n + 1, s, l => (p s).bind fun x => pRep p n x.2 (l ++ [x.1])
def pList {α : Type} (p : ByteArray → Option (α × ByteArray)) (m : Nat) (s : ByteArray) : Option (List α × ByteArray) := (pSmall m s).bind fun x => pRep p x.1.toNat x.2 []
def pJob (s : ByteArray) : Option Job :=
  (pNum s).bind fun x1 => (pNum x1.2).bind fun x2 => (pSmall 7 x2.2).bind fun x3 => (pTx x3.2).bind fun x4 => (pText x4.2).bind fun x5 => (pList pPut 8 x5.2).bind fun x6 => (pTruth x6.2).bind fun x7 => (pList pNum 8 x7.2).bind fun x8 =>
    bif decide (x8.2 = (⟨#[]⟩ : ByteArray)) && mayJob ⟨x1.1, x2.1, ⟨x3.1, x4.1, x5.1, x6.1, x7.1, x8.1⟩⟩ then some ⟨x1.1, x2.1, ⟨x3.1, x4.1, x5.1, x6.1, x7.1, x8.1⟩⟩ else none

/-! ### rounds of a reader that gives up -/
theorem rep_mach {S α : Type} {p : ByteArray → Option (α × ByteArray)} {st : S → ByteArray} {li : S → List α} {ok : ByteArray → Bool} {v : ByteArray → α} {r : ByteArray → ByteArray} {n : Nat → S → S} {c : Nat → S → Bool} {X : Int} {s : S}
    (hp : ∀ x, p x = bif ok x then some (v x, r x) else none) (hc : ∀ i s, c i s = (decide ((i : Int) < X) && ok (st s))) (h1 : ∀ i s, st (n i s) = r (st s)) (h2 : ∀ i s, li (n i s) = li s ++ [v (st s)]) :
    ∀ (f i : Nat), i + f = X.toNat → pRep p f (st (itr n i s)) (li (itr n i s)) = bif !(decide (((cnr c n s f i : Nat) : Int) < X)) then some (li (itr n (cnr c n s f i) s), st (itr n (cnr c n s f i) s)) else none
  | 0, i, h => by
    have : ¬ ((i : Int) < X) := by omega
    simp [cnr, pRep, this]
  | f + 1, i, h => by
    have hi : (i : Int) < X := by omega
    simp only [cnr, pRep, hp, hc, hi, decide_true, Bool.true_and]
    cases hk : ok (st (itr n i s)) with
    | false => simp [hi]
    | true =>
      have := rep_mach (s := s) hp hc h1 h2 f (i + 1) (by omega)
      simp only [itr, h1, h2] at this
      simpa using this
/-! ### rounds of a reader that goes on and tells that it was amiss -/
theorem cnr_stop {S : Type} {c : Nat → S → Bool} {n : Nat → S → S} {s : S} {i : Nat} (h : c i (itr n i s) = false) : ∀ f, cnr c n s f i = i
  | 0 => rfl
  | f + 1 => by simp [cnr, h]
theorem rep_ref {S α : Type} {p : ByteArray → Option (α × ByteArray)} {st : S → ByteArray} {bd : S → Bool} {li : S → List α} {n : Nat → S → S} {c : Nat → S → Bool} {X : Int} {s : S}
    (hc : ∀ i s, c i s = (decide ((i : Int) < X) && !bd s)) (hg : ∀ i s x r, bd s = false → p (st s) = some (x, r) → bd (n i s) = false ∧ st (n i s) = r ∧ li (n i s) = li s ++ [x])
    (hb : ∀ i s, bd s = false → p (st s) = none → bd (n i s) = true) :
    ∀ (f i : Nat), i + f = X.toNat → bd (itr n i s) = false →
      (∀ l r, pRep p f (st (itr n i s)) (li (itr n i s)) = some (l, r) → li (itr n (cnr c n s f i) s) = l ∧ st (itr n (cnr c n s f i) s) = r ∧ bd (itr n (cnr c n s f i) s) = false) ∧
      (pRep p f (st (itr n i s)) (li (itr n i s)) = none → bd (itr n (cnr c n s f i) s) = true)
  | 0, i, h, h0 => by
    refine ⟨fun l r e => ?_, fun e => by simp [pRep] at e⟩
    simp only [pRep, Option.some.injEq, Prod.mk.injEq] at e
    simp only [cnr]; exact ⟨e.1, e.2, h0⟩
  | f + 1, i, h, h0 => by
    have hi : (i : Int) < X := by omega
    have hci : c i (itr n i s) = true := by rw [hc, h0]; simp [hi]
    simp only [cnr, pRep, hci, cond_true]
    cases hp : p (st (itr n i s)) with
    | none =>
      have h1 : bd (itr n (i + 1) s) = true := hb i _ h0 hp
      have h2 : cnr c n s f (i + 1) = i + 1 := cnr_stop (by rw [hc, h1]; simp) f
      rw [h2]
      exact ⟨fun l r e => by simp at e, fun _ => h1⟩
    | some y =>
      obtain ⟨x, r⟩ := y
      obtain ⟨g1, g2, g3⟩ := hg i _ x r h0 hp
      have := rep_ref hc hg hb f (i + 1) (by omega) g1
      simp only [itr, g2, g3] at this
      simpa using this

/-! ### the program's readers -/
theorem mach_num_p (s : ByteArray) : pNum s = bif mach_reader_num_ok ⟨s⟩ then some ((takeNum s).1, (takeNum s).2.1) else none := by
  simp [pNum, mach_reader_num_ok, mach_ask_ok]
theorem mach_text_p (s : ByteArray) : pText s = bif mach_reader_text_ok ⟨s⟩ then some ((takeText s).1, (takeText s).2.1) else none := by
  simp [pText, mach_reader_text_ok, mach_ask_ok]
theorem mach_small_p (m : UInt64) (s : ByteArray) : pSmall m.toNat s = bif mach_reader_small_ok ⟨s⟩ m then some (IntKind.wrap .i64 ((takeNum s).1.toNat : Int), (takeNum s).2.1) else none := by
  simp only [pSmall, mach_num_p, mach_reader_small_ok, mach_ask_ok]
  cases mach_reader_num_ok ⟨s⟩ <;> simp
theorem mach_truth_p (s : ByteArray) : pTruth s = bif mach_reader_truth_ok ⟨s⟩ then some (decide (((takeNum s).1.toNat : Int) = 1), (takeNum s).2.1) else none := by
  simp only [pTruth, mach_num_p, mach_reader_truth_ok, mach_ask_ok]
  have e : decide (((takeNum s).1.toNat : Int) = 1) = decide ((takeNum s).1.toNat = 1) := by simp only [decide_eq_decide]; omega
  have e2 : decide (((takeNum s).1.toNat : Int) ≤ 1) = decide ((takeNum s).1.toNat ≤ 1) := by simp only [decide_eq_decide]; omega
  rw [e, e2]
  cases mach_reader_num_ok ⟨s⟩ <;> simp
theorem mach_tx_p (s : ByteArray) : pTx s = bif mach_reader_tx_ok ⟨s⟩ then some (mach_reader_tx_r0 ⟨s⟩, (takeNum (takeNum s).2.1).2.1) else none := by
  simp only [pTx, mach_num_p, mach_reader_tx_ok, mach_reader_tx_r0]
  cases mach_reader_num_ok ⟨s⟩ <;> simp
  cases mach_reader_num_ok ⟨(takeNum s).2.1⟩ <;> simp
theorem mach_put_p (s : ByteArray) : pPut s = bif mach_reader_put_ok ⟨s⟩ then some (mach_reader_put_r0 ⟨s⟩, (takeNum (takeText (takeText s).2.1).2.1).2.1) else none := by
  simp only [pPut, mach_text_p, mach_truth_p, mach_reader_put_ok, mach_reader_put_r0, mach_reader_put_d1]
  cases mach_reader_text_ok ⟨s⟩ <;> simp
  cases mach_reader_text_ok ⟨(takeText s).2.1⟩ <;> simp
  cases mach_reader_truth_ok ⟨(takeText (takeText s).2.1).2.1⟩ <;> simp
theorem bindB {α β : Type} (b : Bool) (x : α) (f : α → Option β) : (bif b then some x else none).bind f = bif b then f x else none := by cases b <;> rfl
theorem andB {β : Type} (a b : Bool) (y : Option β) : (bif (a && b) then y else none) = bif a then (bif b then y else none) else none := by cases a <;> rfl
theorem bbB {β : Type} (a b : Bool) (y : Option β) : (bif (bif a then b else false) then y else none) = bif a then (bif b then y else none) else none := by cases a <;> rfl
theorem bifB {β : Type} {a a' : Bool} {y y' : Option β} (h : a = a') (k : y = y') : (bif a then y else none) = bif a' then y' else none := by rw [h, k]
theorem mach_puts_p (m : UInt64) (s : ByteArray) : pList pPut m.toNat s = bif mach_several_Put_ok ⟨s⟩ m then some (mach_several_Put_r0 ⟨s⟩ m, (mach_several_Put_S1 ⟨s⟩ m (mach_several_Put_N1 ⟨s⟩ m)).a0) else none := by
  have := rep_mach (st := fun x : mach_several_Put_T1 => x.a0) (li := fun x => x.a1) (ok := fun x => mach_reader_put_ok ⟨x⟩) (n := mach_several_Put_n1 ⟨s⟩ m) (c := mach_several_Put_c1 ⟨s⟩ m) (s := ⟨(takeNum s).2.1, []⟩) mach_put_p (fun i s => rfl) (fun i s => rfl) (fun i s => rfl) _ 0 (Nat.zero_add _)
  simp only [pList, mach_small_p, mach_several_Put_ok, bindB, andB]
  exact bifB rfl this
theorem mach_numbers_p (m : UInt64) (s : ByteArray) : pList pNum m.toNat s = bif mach_several_uint64_ok ⟨s⟩ m then some (mach_several_uint64_r0 ⟨s⟩ m, (mach_several_uint64_S1 ⟨s⟩ m (mach_several_uint64_N1 ⟨s⟩ m)).a0) else none := by
  have := rep_mach (st := fun x : mach_several_uint64_T1 => x.a0) (li := fun x => x.a1) (ok := fun x => mach_reader_num_ok ⟨x⟩) (n := mach_several_uint64_n1 ⟨s⟩ m) (c := mach_several_uint64_c1 ⟨s⟩ m) (s := ⟨(takeNum s).2.1, []⟩) mach_num_p (fun i s => rfl) (fun i s => rfl) (fun i s => rfl) _ 0 (Nat.zero_add _)
  simp only [pList, mach_small_p, mach_several_uint64_ok, bindB, andB]
  exact bifB rfl this
theorem mach_job_p (s : ByteArray) : pJob s = bif mach_TakeJob_1_ok s then some (mach_TakeJob_1_r0 s) else none := by
  have m7 := mach_small_p (UInt64.ofNat (7 : Int).toNat)
  have m8 := mach_puts_p (UInt64.ofNat (8 : Int).toNat)
  have m9 := mach_numbers_p (UInt64.ofNat (8 : Int).toNat)
  rw [show (UInt64.ofNat (7 : Int).toNat).toNat = 7 from rfl] at m7
  rw [show (UInt64.ofNat (8 : Int).toNat).toNat = 8 from rfl] at m8 m9
  simp only [pJob, mach_num_p, mach_text_p, mach_truth_p, mach_tx_p, m7, m8, m9, mach_TakeJob_1_ok, bindB, andB, mach_ask_ok, Bool.not_not, bbB]
  clear m7 m8 m9
  show @Eq (Option Job) _ _
  kernel_rfl

/-! ### the document's readers -/
/-- w: what comes; S: what is left; B: whether something was amiss. -/
def Rr {α : Type} (p : ByteArray → Option (α × ByteArray)) (w : Reader → α) (S : Reader → ByteArray) (B : Reader → Bool) : Prop :=
  (∀ s, B ⟨s, true⟩ = true) ∧ (∀ s x r, p s = some (x, r) → w ⟨s, false⟩ = x ∧ S ⟨s, false⟩ = r ∧ B ⟨s, false⟩ = false) ∧ (∀ s, p s = none → B ⟨s, false⟩ = true)
theorem ref_num_p : Rr pNum ref15_Reader_num_r0 ref15_Reader_num_o0_0 ref15_Reader_num_o0_1 := by
  refine ⟨fun s => by simp [ref15_Reader_num_o0_1], fun s x r h => ?_, fun s h => ?_⟩
  · unfold pNum at h
    cases e : decide ((takeNum s).2.2 = 0) with
    | false => rw [e] at h; simp at h
    | true =>
      rw [e] at h
      simp only [cond_true, Option.some.injEq, Prod.mk.injEq] at h
      simp only [ref15_Reader_num_r0, ref15_Reader_num_o0_0, ref15_Reader_num_o0_1, e, Bool.not_true, Bool.or_self, cond_false]
      exact ⟨h.1, h.2, trivial⟩
  · unfold pNum at h
    cases e : decide ((takeNum s).2.2 = 0) with
    | true => rw [e] at h; simp at h
    | false => simp [ref15_Reader_num_o0_1, e]
theorem ref_text_p : Rr pText ref15_Reader_text_r0 ref15_Reader_text_o0_0 ref15_Reader_text_o0_1 := by
  refine ⟨fun s => by simp [ref15_Reader_text_o0_1], fun s x r h => ?_, fun s h => ?_⟩
  · unfold pText at h
    cases e : decide ((takeText s).2.2 = 0) with
    | false => rw [e] at h; simp at h
    | true =>
      rw [e] at h
      simp only [cond_true, Option.some.injEq, Prod.mk.injEq] at h
      simp only [ref15_Reader_text_r0, ref15_Reader_text_o0_0, ref15_Reader_text_o0_1, e, Bool.not_true, Bool.or_self, cond_false]
      exact ⟨h.1, h.2, trivial⟩
  · unfold pText at h
    cases e : decide ((takeText s).2.2 = 0) with
    | true => rw [e] at h; simp at h
    | false => simp [ref15_Reader_text_o0_1, e]
theorem ref_small_p (m : UInt64) : Rr (pSmall m.toNat) (fun a => ref15_Reader_small_r0 a m) ref15_Reader_num_o0_0 (fun a => ref15_Reader_small_d1 a m) := by
  refine ⟨fun s => by simp [ref15_Reader_small_d1, ref_num_p.1], fun s x r h => ?_, fun s h => ?_⟩
  · unfold pSmall at h
    cases e : pNum s with
    | none => rw [e] at h; simp at h
    | some y =>
      obtain ⟨v, q⟩ := y
      obtain ⟨h1, h2, h3⟩ := ref_num_p.2.1 s v q e
      rw [e] at h
      simp only [Option.bind_some] at h
      cases hv : decide (v.toNat ≤ m.toNat) with
      | false => rw [hv] at h; simp at h
      | true =>
        rw [hv] at h
        simp only [cond_true, Option.some.injEq, Prod.mk.injEq] at h
        have hd : ref15_Reader_small_d1 ⟨s, false⟩ m = false := by
          simp only [ref15_Reader_small_d1, h1, h3, Bool.or_false, decide_eq_false_iff_not]
          simp only [decide_eq_true_eq] at hv; omega
        simp only [ref15_Reader_small_r0, hd, cond_false, h1, h2]
        exact ⟨h.1, h.2, trivial⟩
  · unfold pSmall at h
    cases e : pNum s with
    | none => simp [ref15_Reader_small_d1, ref_num_p.2.2 s e]
    | some y =>
      obtain ⟨v, q⟩ := y
      obtain ⟨h1, h2, h3⟩ := ref_num_p.2.1 s v q e
      rw [e] at h
      simp only [Option.bind_some] at h
      cases hv : decide (v.toNat ≤ m.toNat) with
      | true => rw [hv] at h; simp at h
      | false =>
        simp only [decide_eq_false_iff_not] at hv
        simp only [ref15_Reader_small_d1, h1, Bool.or_eq_true, decide_eq_true_eq]
        left; omega
theorem pTruth_small (s : ByteArray) : pTruth s = (pSmall (UInt64.ofNat (1 : Int).toNat).toNat s).bind fun x => some (decide (x.1 = 1), x.2) := by
  rw [show (UInt64.ofNat (1 : Int).toNat).toNat = 1 from rfl]
  unfold pTruth pSmall
  cases pNum s with
  | none => rfl
  | some y =>
    obtain ⟨v, q⟩ := y
    simp only [Option.bind_some]
    cases hv : decide (v.toNat ≤ 1) with
    | false => rfl
    | true =>
      simp only [cond_true, Option.bind_some, Option.some.injEq, Prod.mk.injEq, and_true, decide_eq_decide]
      simp only [decide_eq_true_eq] at hv
      rw [i64_small v.toNat (by omega)]; omega
theorem ref_truth_p : Rr pTruth (fun a => decide (((ref15_Reader_small_r0 a (UInt64.ofNat (1 : Int).toNat)) : Int) = 1)) ref15_Reader_num_o0_0 (fun a => ref15_Reader_small_d1 a (UInt64.ofNat (1 : Int).toNat)) := by
  obtain ⟨g1, g2, g3⟩ := ref_small_p (UInt64.ofNat (1 : Int).toNat)
  refine ⟨g1, fun s x r h => ?_, fun s h => ?_⟩
  · rw [pTruth_small] at h
    cases e : pSmall (UInt64.ofNat (1 : Int).toNat).toNat s with
    | none => rw [e] at h; simp at h
    | some y =>
      obtain ⟨v, q⟩ := y
      obtain ⟨h1, h2, h3⟩ := g2 s v q e
      rw [e] at h
      simp only [Option.bind_some, Option.some.injEq, Prod.mk.injEq] at h
      simp only at h1
      simp only [h1, h2, h3]
      exact ⟨h.1, h.2, trivial⟩
  · rw [pTruth_small] at h
    cases e : pSmall (UInt64.ofNat (1 : Int).toNat).toNat s with
    | none => exact g3 s e
    | some y => rw [e] at h; simp at h
/-- One behind another. -/
theorem Rr.seq {α β γ : Type} {p : ByteArray → Option (α × ByteArray)} {q : ByteArray → Option (β × ByteArray)} {w : Reader → α} {S S' : Reader → ByteArray} {B B' : Reader → Bool} {w' : Reader → β} (h : Rr p w S B) (k : Rr q w' S' B') (g : α → β → γ) :
    Rr (fun s => (p s).bind fun x => (q x.2).bind fun y => some (g x.1 y.1, y.2)) (fun a => g (w a) (w' ⟨S a, B a⟩)) (fun a => S' ⟨S a, B a⟩) (fun a => B' ⟨S a, B a⟩) := by
  refine ⟨fun s => by show B' ⟨S ⟨s, true⟩, B ⟨s, true⟩⟩ = true; rw [h.1]; exact k.1 _, fun s x r e => ?_, fun s e => ?_⟩
  · dsimp only at e ⊢
    cases e1 : p s with
    | none => rw [e1] at e; simp at e
    | some y =>
      obtain ⟨v, t⟩ := y
      obtain ⟨a1, a2, a3⟩ := h.2.1 s v t e1
      rw [e1] at e; simp only [Option.bind_some] at e
      cases e2 : q t with
      | none => rw [e2] at e; simp at e
      | some z =>
        obtain ⟨v2, t2⟩ := z
        obtain ⟨b1, b2, b3⟩ := k.2.1 t v2 t2 e2
        rw [e2] at e; simp only [Option.bind_some, Option.some.injEq, Prod.mk.injEq] at e
        simp only [a1, a2, a3, b1, b2, b3]
        exact ⟨e.1, e.2, trivial⟩
  · dsimp only at e
    show B' ⟨S ⟨s, false⟩, B ⟨s, false⟩⟩ = true
    cases e1 : p s with
    | none => rw [h.2.2 s e1]; exact k.1 _
    | some y =>
      obtain ⟨v, t⟩ := y
      obtain ⟨a1, a2, a3⟩ := h.2.1 s v t e1
      rw [e1] at e; simp only [Option.bind_some] at e
      rw [a2, a3]
      cases e2 : q t with
      | none => exact k.2.2 t e2
      | some z => rw [e2] at e; simp at e
theorem ref_tx_p : Rr pTx ref15_Reader_tx_r0 (fun a => ref15_Reader_num_o0_0 ⟨ref15_Reader_num_o0_0 a, ref15_Reader_num_o0_1 a⟩) (fun a => ref15_Reader_num_o0_1 ⟨ref15_Reader_num_o0_0 a, ref15_Reader_num_o0_1 a⟩) :=
  ref_num_p.seq ref_num_p (fun x y => (⟨x, y⟩ : Tx))
/-- A list: how many, and so many of them. -/
theorem Rr.list {S α : Type} {p : ByteArray → Option (α × ByteArray)} {st : S → ByteArray} {bd : S → Bool} {li : S → List α} {n : Reader → Nat → S → S} {c : Reader → Nat → S → Bool} {m : UInt64} {mk : ByteArray → Bool → S}
    (hm : ∀ x y, st (mk x y) = x ∧ bd (mk x y) = y ∧ li (mk x y) = [])
    (hc : ∀ a i s, c a i s = (decide ((i : Int) < ref15_Reader_small_r0 a m) && !bd s)) (hg : ∀ a i s x r, bd s = false → p (st s) = some (x, r) → bd (n a i s) = false ∧ st (n a i s) = r ∧ li (n a i s) = li s ++ [x])
    (hb : ∀ a i s, bd s = false → p (st s) = none → bd (n a i s) = true) :
    Rr (pList p m.toNat) (fun a => li (itr (n a) (rnds (c a) (n a) (ref15_Reader_small_r0 a m).toNat (mk (ref15_Reader_num_o0_0 a) (ref15_Reader_small_d1 a m))) (mk (ref15_Reader_num_o0_0 a) (ref15_Reader_small_d1 a m))))
      (fun a => st (itr (n a) (rnds (c a) (n a) (ref15_Reader_small_r0 a m).toNat (mk (ref15_Reader_num_o0_0 a) (ref15_Reader_small_d1 a m))) (mk (ref15_Reader_num_o0_0 a) (ref15_Reader_small_d1 a m))))
      (fun a => bd (itr (n a) (rnds (c a) (n a) (ref15_Reader_small_r0 a m).toNat (mk (ref15_Reader_num_o0_0 a) (ref15_Reader_small_d1 a m))) (mk (ref15_Reader_num_o0_0 a) (ref15_Reader_small_d1 a m)))) := by
  obtain ⟨g1, g2, g3⟩ := ref_small_p m
  have bad : ∀ a, ref15_Reader_small_d1 a m = true → bd (itr (n a) (rnds (c a) (n a) (ref15_Reader_small_r0 a m).toNat (mk (ref15_Reader_num_o0_0 a) (ref15_Reader_small_d1 a m))) (mk (ref15_Reader_num_o0_0 a) (ref15_Reader_small_d1 a m))) = true := by
    intro a h
    rw [rnds, cnr_stop (by rw [hc, itr, (hm _ _).2.1, h]; simp)]
    rw [itr, (hm _ _).2.1, h]
  refine ⟨fun s => bad _ (g1 s), fun s x r e => ?_, fun s e => ?_⟩
  · unfold pList at e
    cases e1 : pSmall m.toNat s with
    | none => rw [e1] at e; simp at e
    | some y =>
      obtain ⟨v, t⟩ := y
      obtain ⟨a1, a2, a3⟩ := g2 s v t e1
      simp only at a1 a3
      rw [e1] at e; simp only [Option.bind_some] at e
      have := (rep_ref (p := p) (st := st) (bd := bd) (li := li) (n := n ⟨s, false⟩) (c := c ⟨s, false⟩) (X := v) (s := mk t false) (fun i s' => by rw [hc, a1]) (hg _) (hb _) v.toNat 0 (Nat.zero_add _) (hm _ _).2.1).1 x r
        (by rw [itr, (hm _ _).1, (hm _ _).2.2]; exact e)
      simp only [a1, a2, a3]
      exact this
  · unfold pList at e
    cases e1 : pSmall m.toNat s with
    | none => exact bad _ (g3 s e1)
    | some y =>
      obtain ⟨v, t⟩ := y
      obtain ⟨a1, a2, a3⟩ := g2 s v t e1
      simp only at a1 a3
      rw [e1] at e; simp only [Option.bind_some] at e
      have := (rep_ref (p := p) (st := st) (bd := bd) (li := li) (n := n ⟨s, false⟩) (c := c ⟨s, false⟩) (X := v) (s := mk t false) (fun i s' => by rw [hc, a1]) (hg _) (hb _) v.toNat 0 (Nat.zero_add _) (hm _ _).2.1).2
        (by rw [itr, (hm _ _).1, (hm _ _).2.2]; exact e)
      simp only [a1, a2, a3]
      exact this
theorem ref_numbers_p : Rr (pList pNum 8) ref15_Reader_numbers_r0 (fun a => (ref15_Reader_numbers_S1 a (ref15_Reader_numbers_N1 a)).a0) (fun a => (ref15_Reader_numbers_S1 a (ref15_Reader_numbers_N1 a)).a1) :=
  Rr.list (p := pNum) (m := UInt64.ofNat (8 : Int).toNat) (st := fun x : ref15_Reader_numbers_T1 => x.a0) (bd := fun x => x.a1) (li := fun x => x.a2) (n := ref15_Reader_numbers_n1) (c := ref15_Reader_numbers_c1) (mk := fun x y => ⟨x, y, []⟩) (fun x y => ⟨rfl, rfl, rfl⟩) (fun a i s => rfl)
    (fun a i s x r h e => by
      obtain ⟨sa, sb, sl⟩ := s
      change sb = false at h; subst h
      obtain ⟨h1, h2, h3⟩ := ref_num_p.2.1 sa x r e
      exact ⟨h3, h2, congrArg (fun z => sl ++ [z]) h1⟩)
    (fun a i s h e => by
      obtain ⟨sa, sb, sl⟩ := s
      change sb = false at h; subst h
      exact ref_num_p.2.2 sa e)
theorem ref_put_p : Rr pPut (fun a => (⟨ref15_Reader_text_r0 a, ref15_Reader_text_r0 ⟨ref15_Reader_text_o0_0 a, ref15_Reader_text_o0_1 a⟩, decide (((ref15_Reader_small_r0 ⟨ref15_Reader_text_o0_0 ⟨ref15_Reader_text_o0_0 a, ref15_Reader_text_o0_1 a⟩, ref15_Reader_text_o0_1 ⟨ref15_Reader_text_o0_0 a, ref15_Reader_text_o0_1 a⟩⟩ (UInt64.ofNat (1 : Int).toNat)) : Int) = 1)⟩ : Put))
    (fun a => ref15_Reader_num_o0_0 ⟨ref15_Reader_text_o0_0 ⟨ref15_Reader_text_o0_0 a, ref15_Reader_text_o0_1 a⟩, ref15_Reader_text_o0_1 ⟨ref15_Reader_text_o0_0 a, ref15_Reader_text_o0_1 a⟩⟩)
    (fun a => ref15_Reader_small_d1 ⟨ref15_Reader_text_o0_0 ⟨ref15_Reader_text_o0_0 a, ref15_Reader_text_o0_1 a⟩, ref15_Reader_text_o0_1 ⟨ref15_Reader_text_o0_0 a, ref15_Reader_text_o0_1 a⟩⟩ (UInt64.ofNat (1 : Int).toNat)) := by
  have h := ref_text_p.seq (ref_text_p.seq ref_truth_p (fun y z => (y, z))) (fun x y => (⟨x, y.1, y.2⟩ : Put))
  have e : pPut = (fun s => (pText s).bind fun x => ((fun s => (pText s).bind fun x => (pTruth x.2).bind fun y => some ((x.1, y.1), y.2)) x.2).bind fun y => some ((⟨x.1, y.1.1, y.1.2⟩ : Put), y.2)) := by
    funext s
    unfold pPut
    cases pText s with
    | none => rfl
    | some x =>
      simp only [Option.bind_some]
      cases pText x.2 with
      | none => rfl
      | some y =>
        simp only [Option.bind_some]
        cases pTruth y.2 <;> rfl
  rw [e]; exact h
theorem ref_puts_p : Rr (pList pPut 8) ref15_Reader_puts_r0 (fun a => (ref15_Reader_puts_S1 a (ref15_Reader_puts_N1 a)).a0) (fun a => (ref15_Reader_puts_S1 a (ref15_Reader_puts_N1 a)).a1) :=
  Rr.list (p := pPut) (m := UInt64.ofNat (8 : Int).toNat) (st := fun x : ref15_Reader_puts_T1 => x.a0) (bd := fun x => x.a1) (li := fun x => x.a2) (n := ref15_Reader_puts_n1) (c := ref15_Reader_puts_c1) (mk := fun x y => ⟨x, y, []⟩) (fun x y => ⟨rfl, rfl, rfl⟩) (fun a i s => rfl)
    (fun a i s x r h e => by
      obtain ⟨sa, sb, sl⟩ := s
      change sb = false at h; subst h
      obtain ⟨h1, h2, h3⟩ := ref_put_p.2.1 sa x r e
      exact ⟨h3, h2, congrArg (fun z => sl ++ [z]) h1⟩)
    (fun a i s h e => by
      obtain ⟨sa, sb, sl⟩ := s
      change sb = false at h; subst h
      exact ref_put_p.2.2 sa e)

def pAll (s : ByteArray) : Option (Job × ByteArray) :=
  (pNum s).bind fun x1 => (pNum x1.2).bind fun x2 => (pSmall 7 x2.2).bind fun x3 => (pTx x3.2).bind fun x4 => (pText x4.2).bind fun x5 => (pList pPut 8 x5.2).bind fun x6 => (pTruth x6.2).bind fun x7 => (pList pNum 8 x7.2).bind fun x8 =>
    some (⟨x1.1, x2.1, ⟨x3.1, x4.1, x5.1, x6.1, x7.1, x8.1⟩⟩, x8.2)
theorem pJob_all (s : ByteArray) : pJob s = (pAll s).bind fun z => bif decide (z.2 = (⟨#[]⟩ : ByteArray)) && mayJob z.1 then some z.1 else none := by
  simp only [pJob, pAll, Option.bind_assoc, Option.bind_some]
def refJob (a0 : ByteArray) : Job := ⟨(ref15_Reader_num_r0 (⟨a0, false⟩ : M.Reader)), (ref15_TakeJob_d3 a0), (⟨(ref15_TakeJob_d5 a0), (⟨(ref15_TakeJob_d8 a0), (ref15_TakeJob_d9 a0)⟩ : M.Tx), (ref15_Reader_text_r0 (⟨(ref15_TakeJob_d6 a0), (ref15_TakeJob_d7 a0)⟩ : M.Reader)), (ref15_TakeJob_d12 a0), (ref15_TakeJob_d14 a0), (ref15_TakeJob_d17 a0)⟩ : M.Order)⟩
theorem ref_all_p (s : ByteArray) : (∀ j r, pAll s = some (j, r) → refJob s = j ∧ ref15_TakeJob_d15 s = r ∧ ref15_TakeJob_d16 s = false) ∧ (pAll s = none → ref15_TakeJob_d16 s = true) := by
  have h0 := ref_num_p.seq (ref_num_p.seq ((ref_small_p (UInt64.ofNat (7 : Int).toNat)).seq (ref_tx_p.seq (ref_text_p.seq (ref_puts_p.seq (ref_truth_p.seq ref_numbers_p
    (fun x y => (x, y))) (fun x y => (x, y))) (fun x y => (x, y))) (fun x y => (x, y))) (fun x y => (x, y))) (fun x y => (x, y))) (fun x y => (⟨x, y.1, ⟨y.2.1, y.2.2.1, y.2.2.2.1, y.2.2.2.2.1, y.2.2.2.2.2.1, y.2.2.2.2.2.2⟩⟩ : Job))
  rw [show (UInt64.ofNat (7 : Int).toNat).toNat = 7 from rfl] at h0
  have h : Rr pAll _ _ _ := Eq.mp (congrArg (fun p => Rr p _ _ _) (funext fun s => by simp only [pAll, Option.bind_assoc, Option.bind_some])) h0
  refine ⟨fun j r e => ?_, fun e => ?_⟩
  · obtain ⟨g1, g2, g3⟩ := h.2.1 s j r e
    exact ⟨Eq.trans (by kernel_rfl) g1, Eq.trans (by kernel_rfl) g2, Eq.trans (by kernel_rfl) g3⟩
  · exact Eq.trans (by kernel_rfl) (h.2.2 s e)
/-- The document's: what it takes is the same. -/
theorem ref_job_p (s : ByteArray) : (∀ j, pJob s = some j → ref15_TakeJob_r0 s = j ∧ ref15_TakeJob_r1 s = 0) ∧
    (pJob s = none → ref15_TakeJob_r0 s = ⟨0, 0, ⟨0, ⟨0, 0⟩, ⟨#[]⟩, [], false, []⟩⟩ ∧ ref15_TakeJob_r1 s = 3) := by
  obtain ⟨h1, h2⟩ := ref_all_p s
  have hr : ref15_TakeJob_r0 s = bif (ref15_TakeJob_d16 s || (decide (((ref15_TakeJob_d15 s).size : Int) > 0) || !(mayJob (refJob s)))) then ⟨0, 0, ⟨0, ⟨0, 0⟩, ⟨#[]⟩, [], false, []⟩⟩ else refJob s := by kernel_rfl
  have hc : ref15_TakeJob_r1 s = bif (ref15_TakeJob_d16 s || (decide (((ref15_TakeJob_d15 s).size : Int) > 0) || !(mayJob (refJob s)))) then 3 else 0 := by kernel_rfl
  rw [pJob_all, hr, hc]
  cases e : pAll s with
  | none => rw [h2 e]; simp
  | some z =>
    obtain ⟨j, r⟩ := z
    obtain ⟨g1, g2, g3⟩ := h1 j r e
    rw [g1, g2, g3]
    simp only [Option.bind_some, Bool.false_or]
    have hz : decide ((r.size : Int) > 0) = !decide (r = (⟨#[]⟩ : ByteArray)) := by
      by_cases hr0 : r = (⟨#[]⟩ : ByteArray)
      · subst hr0; rfl
      · have : r.size ≠ 0 := fun h => hr0 (by
          have h2 : r.data.size = 0 := h
          cases r with
          | mk d => exact congrArg ByteArray.mk (Array.eq_empty_of_size_eq_zero h2))
        simp [hr0]; omega
    rw [hz]
    cases decide (r = (⟨#[]⟩ : ByteArray)) <;> cases mayJob j <;> simp
end Go.Proofs.Fw
