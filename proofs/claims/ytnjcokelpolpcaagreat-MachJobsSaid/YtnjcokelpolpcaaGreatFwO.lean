/- A region that draws its order comes to what the text's order comes to. -/
import Derived.Test.YtnjcokelpolpcaaGreatFwN
set_option linter.unusedVariables false
set_option linter.unusedSimpArgs false
set_option linter.unusedSectionVars false
set_option linter.unnecessarySimpa false
namespace Go.Proofs.Fw
open Go Go.RowKit

def cnt (p : Nat → Bool) : Nat → Nat
  | 0 => 0
  | n + 1 => cnt p n + (bif p n then 0 else 1)
theorem cnt_le (p : Nat → Bool) : ∀ n, cnt p n ≤ n
  | 0 => Nat.le_refl _
  | n + 1 => by simp only [cnt]; have := cnt_le p n; cases p n <;> simp <;> omega
theorem cnt_zero {p : Nat → Bool} : ∀ {n : Nat}, cnt p n = 0 → ∀ i, i < n → p i = true
  | 0, _, i, h => by omega
  | n + 1, h, i, hi => by
    simp only [cnt] at h
    have hpn : p n = true := by cases hp : p n <;> simp [hp] at h ⊢
    by_cases e : i = n
    · rw [e]; exact hpn
    · exact cnt_zero (n := n) (by rw [hpn] at h; simpa using h) i (by omega)
theorem cnt_set {p q : Nat → Bool} {i : Nat} (hq : q i = true) (hp : p i = false) (ho : ∀ j, j ≠ i → q j = p j) : ∀ {n : Nat}, i < n → cnt q n + 1 = cnt p n
  | 0, h => by omega
  | n + 1, h => by
    simp only [cnt]
    by_cases e : i = n
    · subst e
      have : ∀ m, m ≤ i → cnt q m = cnt p m := by
        intro m
        induction m with
        | zero => intro _; rfl
        | succ m ih => intro hm; simp only [cnt]; rw [ih (by omega), ho m (by omega)]
      rw [this i (Nat.le_refl _), hq, hp]; simp
    · have := cnt_set hq hp ho (n := n) (by omega)
      rw [ho n (by omega)]; omega

def at_ (listed : Array Bool) (i : Nat) : Bool := listed.getD i false

theorem ready_mem {ops : Array Oper} {listed : Array Bool} (hsz : listed.size = ops.size) {i : Nat} (h : i ∈ Region.ready .any ops listed) :
    i < ops.size ∧ at_ listed i = false ∧ ∃ o, ops[i]? = some o ∧ ∀ j ∈ bindsAll o, at_ listed j = true := by
  simp only [Region.ready, List.mem_filter, List.mem_range, Bool.and_eq_true, Bool.not_eq_true'] at h
  obtain ⟨h1, h2, h3⟩ := h
  have hlt : i < listed.size := by omega
  refine ⟨h1, ?_, ops[i], by simp [h1], ?_⟩
  · simp only [at_, Array.getD_eq_getD_getElem?] at h2 ⊢
    rw [Array.getElem?_eq_getElem hlt] at h2 ⊢
    simpa using h2
  · intro j hj
    simp only [bindsAll, List.mem_map, List.mem_filter] at hj
    obtain ⟨e, ⟨he1, he2⟩, rfl⟩ := hj
    rw [Array.getElem?_eq_getElem h1] at h3
    simp only [Option.map_some, Option.getD_some, Array.all_eq_true'] at h3
    have := h3 e (Array.mem_toList_iff.1 he1)
    simp only [he2, Bool.not_true, Bool.false_or] at this
    exact this
theorem ready_of {ops : Array Oper} {listed : Array Bool} {i : Nat} (h1 : i < ops.size) (h2 : at_ listed i = false) (hsz : listed.size = ops.size) (h3 : ∀ o, ops[i]? = some o → ∀ j ∈ bindsAll o, at_ listed j = true) : i ∈ Region.ready .any ops listed := by
  simp only [Region.ready, List.mem_filter, List.mem_range, Bool.and_eq_true, Bool.not_eq_true']
  have hlt : i < listed.size := by omega
  refine ⟨h1, ?_, ?_⟩
  · simp only [at_, Array.getD_eq_getD_getElem?] at h2 ⊢
    rw [Array.getElem?_eq_getElem hlt] at h2 ⊢
    simpa using h2
  · rw [Array.getElem?_eq_getElem h1]
    simp only [Option.map_some, Option.getD_some, Array.all_eq_true']
    intro e he
    cases hb : Region.binds .any e with
    | false => simp
    | true =>
      simp only [Bool.not_true, Bool.false_or]
      exact h3 _ (Array.getElem?_eq_getElem h1) e.on (by simp only [bindsAll, List.mem_map, List.mem_filter]; exact ⟨e, ⟨Array.mem_toList_iff.2 he, hb⟩, rfl⟩)

def Down (ops : Array Oper) (listed : Array Bool) : Prop := ∀ i o, ops[i]? = some o → at_ listed i = true → ∀ j ∈ bindsAll o, at_ listed j = true

theorem bef_listed {ops : Array Oper} {listed : Array Bool} (hback : backOk ops.toList 0 = true) (hd : Down ops listed) : ∀ (n i : Nat) (o : Oper), i ≤ n → ops[i]? = some o → (∀ j ∈ bindsAll o, at_ listed j = true) →
    ∀ j, ((befL ops.toList []).getD i 0).testBit j = true → at_ listed j = true := by
  intro n
  induction n with
  | zero =>
    intro i o hi ho hall j ht
    have hib : i = 0 := by omega
    subst hib
    have hb := backOk_get hback 0 o (by simpa using ho)
    obtain ⟨p, hp, h1⟩ := befL_get ops.toList [] 0 o (by simpa using ho) (by simpa using hb) j (by simpa using ht)
    have := hb p hp; omega
  | succ n ih =>
    intro i o hi ho hall j ht
    have hb := backOk_get hback i o (by simpa using ho)
    obtain ⟨p, hp, h1⟩ := befL_get ops.toList [] i o (by simpa using ho) (by simpa using hb) j (by simpa using ht)
    have hpl := hall p hp
    rcases h1 with rfl | h1
    · exact hpl
    · have hlt := hb p hp
      have hps : p < ops.size := by have := (Array.getElem?_eq_some_iff.1 ho).1; omega
      exact ih p ops[p] (by omega) (Array.getElem?_eq_getElem hps) (hd p ops[p] (Array.getElem?_eq_getElem hps) hpl) j h1

/-- Of two whose order is fixed, as seen from one that may come next. -/
theorem cmp_listed {ops : Array Oper} {listed : Array Bool} (hback : backOk ops.toList 0 = true) (hd : Down ops listed) {i : Nat} {o : Oper} (ho : ops[i]? = some o) (hall : ∀ j ∈ bindsAll o, at_ listed j = true) (hi : at_ listed i = false)
    {j : Nat} (hj : j < ops.size) (hc : cmp (befL ops.toList []) i j = true) : at_ listed j = Nat.blt j i := by
  unfold cmp at hc
  cases hb : Nat.blt j i with
  | true =>
    simp only [hb, cond_true] at hc
    exact bef_listed hback hd i i o (Nat.le_refl _) ho hall j hc
  | false =>
    simp only [hb, cond_false] at hc
    cases hl : at_ listed j with
    | false => rfl
    | true =>
      have := bef_listed hback hd j j ops[j] (Nat.le_refl _) (Array.getElem?_eq_getElem hj) (hd j ops[j] (Array.getElem?_eq_getElem hj) hl) i hc
      rw [hi] at this; simp at this

theorem St.ext' {a b : St} (h1 : a.n = b.n) (h2 : a.s = b.s) (h3 : a.ob = b.ob) (h4 : a.nx = b.nx) : a = b := by
  cases a; cases b; simp at h1 h2 h3 h4; subst h1; subst h2; subst h3; subst h4; rfl

theorem doctor_congr {T W : St} {use need : List Nat} (hn : W.n = T.n) (hx : W.nx = T.nx) (hs : ∀ t ∈ use, W.s t = T.s t) (ho : ∀ l ∈ need, W.ob l = T.ob l) : doctor W use need = doctor T use need := by
  refine St.ext' hn ?_ ?_ hx
  · funext d
    simp only [doctor]
    cases hm : memN d use with
    | false => rfl
    | true => exact hs d (memN_iff.1 hm)
  · funext l
    simp only [doctor, restO]
    cases hm : memN l need with
    | false => rfl
    | true => exact ho l (memN_iff.1 hm)

section
variable {P : Program} {nx : Nat} {ops : Array Oper} {hs : List HintX} {st0 : St} {vc : VC} {rs : List Rec} {E0 : Env} {M0 : Nat → Prop} {w0 : World} {Q : Exit → Act → World → Prop}

theorem any_run (htr : trace P nx ops hs ops.toList 0 st0 = some (vc, rs)) (hv : holds vc) (hback : backOk ops.toList 0 = true) (hall : allOk (befL ops.toList []) rs rs 0 = true)
    (hQ : ∀ a w, Rl E0 M0 w0 (appS (fun _ => true) rs 0 st0) a w → Q .normal a w) : ∀ (fuel : Nat) (listed : Array Bool) (a : Act) (w : World), listed.size = ops.size → Down ops listed → cnt (at_ listed) ops.size = fuel →
    Rl E0 M0 w0 (appS (at_ listed) rs 0 st0) a w → wpAny P .any ops Q fuel listed a w := by
  obtain ⟨hlen, hget⟩ := trace_get ops.toList 0 st0 vc rs htr hv
  have hlen' : rs.length = ops.size := by rw [hlen]; simp
  intro fuel
  induction fuel with
  | zero =>
    intro listed a w hsz hd hc hr
    have hall1 := cnt_zero hc
    refine ⟨?_, hQ a w ?_⟩
    · cases hrd : Region.ready .any ops listed with
      | nil => rfl
      | cons x xs =>
        obtain ⟨h1, h2, _⟩ := ready_mem hsz (i := x) (by rw [hrd]; simp)
        rw [hall1 x h1] at h2; simp at h2
    · rw [appS_congr (p := fun _ => true) (q := at_ listed) rs 0 st0 (fun j hj => by rw [Nat.zero_add]; exact (hall1 j (by omega)).symm)]
      exact hr
  | succ fuel ih =>
    intro listed a w hsz hd hc hr
    refine ⟨?_, ?_⟩
    · intro hrd
      exfalso
      -- the first that isn't listed may come next
      have : ∃ i, i < ops.size ∧ at_ listed i = false := by
        have hne : cnt (at_ listed) ops.size ≠ 0 := by omega
        have : ∀ n, n ≤ ops.size → cnt (at_ listed) n ≠ 0 → ∃ i, i < n ∧ at_ listed i = false := by
          intro n
          induction n with
          | zero => intro _ h; exact absurd rfl h
          | succ n ihn =>
            intro hn h
            simp only [cnt] at h
            cases hp : at_ listed n with
            | false => exact ⟨n, by omega, hp⟩
            | true =>
              rw [hp] at h
              obtain ⟨i, h1, h2⟩ := ihn (by omega) (by simpa using h)
              exact ⟨i, by omega, h2⟩
        exact this ops.size (Nat.le_refl _) hne
      obtain ⟨i, ⟨hi1, hi2⟩, hleast⟩ := exists_least this
      have hmem : i ∈ Region.ready .any ops listed := by
        refine ready_of hi1 hi2 hsz (fun o ho j hj => ?_)
        have hlt := backOk_get hback i o (by simpa using ho) j hj
        cases hl : at_ listed j with
        | true => rfl
        | false => have := hleast j ⟨by omega, hl⟩; omega
      rw [hrd] at hmem; simp at hmem
    · intro i hi
      obtain ⟨hi1, hi2, o, ho, hbinds⟩ := ready_mem hsz hi
      obtain ⟨vck, r, hr1, hr2, hr3⟩ := hget i o (by simpa using ho)
      rw [Nat.zero_add] at hr2
      have hp' : ∀ j, at_ (listed.setIfInBounds i true) j = (bif Nat.beq j i then true else at_ listed j) := by
        intro j
        simp only [at_, Array.getD_eq_getD_getElem?]
        cases hb : Nat.beq j i with
        | true =>
          have := Nat.eq_of_beq_eq_true hb; subst this
          rw [Array.getElem?_setIfInBounds_self_of_lt (by omega)]; rfl
        | false =>
          have hne : i ≠ j := by rintro rfl; simp at hb
          rw [Array.getElem?_setIfInBounds_ne hne]; rfl
      have hp'i : at_ (listed.setIfInBounds i true) i = true := by rw [hp' i]; simp
      have hp'o : ∀ j, j ≠ i → at_ (listed.setIfInBounds i true) j = at_ listed j := by
        intro j hj
        rw [hp' j]
        have : Nat.beq j i = false := by
          cases hb : Nat.beq j i with
          | false => rfl
          | true => exact absurd (Nat.eq_of_beq_eq_true hb) hj
        rw [this]; rfl
      have hdown' : Down ops (listed.setIfInBounds i true) := by
        intro j oj hoj hlj k hk
        by_cases e : j = i
        · subst e
          rw [ho] at hoj; simp only [Option.some.injEq] at hoj; subst hoj
          by_cases ek : k = j
          · rw [ek]; exact hp'i
          · rw [hp'o k ek]; exact hbinds k hk
        · rw [hp'o j e] at hlj
          by_cases ek : k = i
          · rw [ek]; exact hp'i
          · rw [hp'o k ek]; exact hd j oj hoj hlj k hk
      have hnext : ∀ a' w', Rl E0 M0 w0 (appS (at_ (listed.setIfInBounds i true)) rs 0 st0) a' w' → wpAny P .any ops Q fuel (listed.setIfInBounds i true) a' w' :=
        fun a' w' h => ih _ a' w' (by simp [hsz]) hdown' (by have := cnt_set (p := at_ listed) (q := at_ (listed.setIfInBounds i true)) hp'i hi2 hp'o hi1; omega) h
      -- what the others mean to this one
      have hpair : ∀ j rj, rs[j]? = some rj → pairOk (befL ops.toList []) i j r rj = true := by
        intro j rj hj
        have := allOk_get hall i r hr1
        rw [Nat.zero_add] at this
        have := rowOk_get this j rj hj
        rwa [Nat.zero_add] at this
      have hjs : ∀ j rj, rs[j]? = some rj → j < ops.size := by
        intro j rj hj
        have := (List.getElem?_eq_some_iff.1 hj).1; omega
      have hord : ∀ j rj, rs[j]? = some rj → cmp (befL ops.toList []) i j = true ∨ j = i → at_ listed j = Nat.blt j i := by
        intro j rj hj h
        rcases h with h | rfl
        · exact cmp_listed hback hd ho hbinds hi2 (hjs j rj hj) h
        · rw [hi2]; cases hb : Nat.blt j j with
          | false => rfl
          | true => have := blt_lt hb; omega
      have hfree : ∀ j rj, rs[j]? = some rj → (cmp (befL ops.toList []) i j = true ∨ j = i) ∨ ((∀ d, rj.d = some d → d ∉ r.use ∧ r.d ≠ some d) ∧ ∀ l, (lookO l rj.ob).isSome = true → l ∉ r.need ∧ l ∉ r.ob.map (·.1)) := by
        intro j rj hj
        have h := hpair j rj hj
        simp only [pairOk, Bool.or_eq_true, Bool.and_eq_true, Bool.not_eq_true'] at h
        rcases h with (h | h) | ⟨h1, h2⟩
        · exact .inl (.inr (Nat.eq_of_beq_eq_true h).symm)
        · exact .inl (.inl h)
        · refine .inr ⟨fun d hd => ?_, fun l hl => ?_⟩
          · rw [hd] at h1
            simp only [Bool.or_eq_false_iff] at h1
            refine ⟨fun hm => ?_, fun he => ?_⟩
            · rw [memN_iff.2 hm] at h1; simp at h1
            · rw [he] at h1; simp at h1
          · have hn : l ∉ (r.need ++ r.ob.map (·.1)) := by
              intro hm
              cases hlk : lookO l rj.ob with
              | none => rw [hlk] at hl; simp at hl
              | some x =>
                have hmm := lookO_mem hlk
                have : hits (r.need ++ r.ob.map (·.1)) rj.ob = true := by
                  simp only [hits, List.any_eq_true]
                  exact ⟨(l, x), hmm, memN_iff.2 hm⟩
                rw [this] at h2; simp at h2
            simp only [List.mem_append, not_or] at hn
            exact hn
      let W := appS (at_ listed) rs 0 st0
      let T := appS (fun j => Nat.blt j i) rs 0 st0
      have hWT_s : ∀ d, (d ∈ r.use ∨ r.d = some d) → W.s d = T.s d := by
        intro d hdu
        refine appS_s rs 0 st0 st0 (fun j rj hj hrd => ?_) rfl
        rw [Nat.zero_add]
        rcases hfree j rj hj with h | ⟨h, _⟩
        · exact hord j rj hj h
        · obtain ⟨h1, h2⟩ := h d hrd
          rcases hdu with hdu | hdu
          · exact absurd hdu h1
          · exact absurd hdu h2
      have hWT_ob : ∀ l, (l ∈ r.need ∨ l ∈ r.ob.map (·.1)) → W.ob l = T.ob l := by
        intro l hl
        refine appS_ob rs 0 st0 st0 (fun j rj hj hrd => ?_) rfl
        rw [Nat.zero_add]
        rcases hfree j rj hj with h | ⟨_, h⟩
        · exact hord j rj hj h
        · obtain ⟨h1, h2⟩ := h l hrd
          rcases hl with hl | hl
          · exact absurd hl h1
          · exact absurd hl h2
      -- the state behind it
      have hS' : ∀ (W' : St), W'.n = W.n → W'.nx = W.nx → W'.s = app1s W.s r → (∀ l, W'.ob l = overO (fun l => lookO l r.ob) W.ob l) → W' = appS (at_ (listed.setIfInBounds i true)) rs 0 st0 := by
        intro W' e1 e2 e3 e4
        refine St.ext' ?_ ?_ ?_ ?_
        · rw [e1]; exact (appS_n _ rs 0 st0).trans (appS_n _ rs 0 st0).symm
        · rw [e3]
          funext d
          by_cases hrd : r.d = some d
          · rw [app1s_same hrd]
            refine (appS_last_s rs 0 st0 i r hr1 hrd (by rw [Nat.zero_add]; exact hp'i) (fun j rj hlt hj hrj => ?_)).symm
            rw [Nat.zero_add, hp'o j (by omega)]
            rcases hfree j rj hj with h | ⟨h, _⟩
            · rw [hord j rj hj h]
              cases hb : Nat.blt j i with
              | false => rfl
              | true => have := blt_lt hb; omega
            · exact absurd hrd (h d hrj).2
          · rw [app1s_other hrd]
            refine appS_s rs 0 st0 st0 (fun j rj hj hrj => ?_) rfl
            rw [Nat.zero_add]
            by_cases e : j = i
            · subst e; rw [hr1] at hj; simp only [Option.some.injEq] at hj; subst hj; exact absurd hrj hrd
            · exact (hp'o j e).symm
        · funext l
          rw [e4 l]
          cases hlk : lookO l r.ob with
          | some x =>
            simp only [overO, hlk]
            refine (appS_last_ob rs 0 st0 i r hr1 hlk (by rw [Nat.zero_add]; exact hp'i) (fun j rj hlt hj hrj => ?_)).symm
            rw [Nat.zero_add, hp'o j (by omega)]
            rcases hfree j rj hj with h | ⟨_, h⟩
            · rw [hord j rj hj h]
              cases hb : Nat.blt j i with
              | false => rfl
              | true => have := blt_lt hb; omega
            · exact absurd (lookO_key hlk) (h l hrj).2
          | none =>
            simp only [overO, hlk]
            refine appS_ob rs 0 st0 st0 (fun j rj hj hrj => ?_) rfl
            rw [Nat.zero_add]
            by_cases e : j = i
            · subst e; rw [hr1] at hj; simp only [Option.some.injEq] at hj; subst hj; rw [hlk] at hrj; simp at hrj
            · exact (hp'o j e).symm
        · rw [e2]; exact (appS_nx _ rs 0 st0).trans (appS_nx _ rs 0 st0).symm
      simp only [wpOp, ho]
      obtain ⟨E, hg, he, hk⟩ := hr
      have huse : r.use = usesOf ops o := by
        unfold recOf at hr2
        split at hr2
        · cases hf : T.fits o.dst with
          | false => rw [show (appS (fun j => Nat.blt j i) rs 0 st0).fits o.dst = false from hf] at hr2; simp at hr2
          | true => rw [show (appS (fun j => Nat.blt j i) rs 0 st0).fits o.dst = true from hf] at hr2; simp only [cond_true, Option.some.injEq, Prod.mk.injEq] at hr2; rw [← hr2.2]
        · simp only at hr2
          split at hr2
          · generalize hbb : (_ && _ && _ && _) = bb at hr2
            cases bb with
            | false => simp at hr2
            | true => simp only [cond_true, Option.some.injEq, Prod.mk.injEq] at hr2; rw [← hr2.2]
          · simp at hr2
        · simp at hr2
      have hguard : guardOf W ops o = guardOf T ops o := guardOf_congr (fun t ht => hWT_s t (.inl (by rw [huse]; exact ht)))
      unfold recOf at hr2
      split at hr2
      · rename_i hgd
        have hgd' : guardOf W ops o = .skip := by rw [hguard]; exact hgd
        have hw := guard_skip hg hgd'
        rw [if_neg (by rw [hw]; simp)]
        refine hnext _ _ ?_
        cases hf : (appS (fun j => Nat.blt j i) rs 0 st0).fits o.dst with
        | false => rw [hf] at hr2; simp at hr2
        | true =>
          rw [hf] at hr2
          simp only [cond_true, Option.some.injEq, Prod.mk.injEq] at hr2
          obtain ⟨_, rfl⟩ := hr2
          have hf' : W.fits o.dst = true := by
            have e1 : W.n = (appS (fun j => Nat.blt j i) rs 0 st0).n := (appS_n _ rs 0 st0).trans (appS_n _ rs 0 st0).symm
            cases hd : o.dst with
            | none => rfl
            | some d => simp only [hd, St.fits] at hf ⊢; rw [e1]; exact hf
          have := Rl.put hg he hk hf' (v := .lit undef) (x := undef) (by simp only [rep])
          rw [← hS' (W.set o.dst (.lit undef)) (by cases o.dst <;> rfl) (by cases o.dst <;> rfl) (by cases hd : o.dst <;> simp [St.set, app1s, hd]) (by intro l; rw [set_ob]; rfl)]
          exact this
      · rename_i hgd
        have hgd' : guardOf W ops o = .run := by rw [hguard]; exact hgd
        have hw := guard_run hg hgd'
        rw [if_pos hw]
        left
        simp only at hr2
        split at hr2
        · rename_i vck' st'' hop
          generalize hbb : (_ && _ && _ && _) = bb at hr2
          cases bb with
          | false => simp at hr2
          | true =>
            simp only [cond_true, Option.some.injEq, Prod.mk.injEq] at hr2
            obtain ⟨rfl, rfl⟩ := hr2
            simp only [Bool.and_eq_true] at hbb
            obtain ⟨⟨⟨k1, k2⟩, k3⟩, k4⟩ := hbb
            generalize hneed : needOf (appS (fun j => Nat.blt j i) rs 0 st0) (usesOf ops o) (hintAt i hs) = need at hop k1 k2 k3 hr1 hpair hfree hWT_s hWT_ob hS'
            have hdoc : doctor W (usesOf ops o) need = doctor T (usesOf ops o) need :=
              doctor_congr (by rw [show W.n = st0.n from appS_n _ rs 0 st0, show T.n = st0.n from appS_n _ rs 0 st0]) (by rw [show W.nx = st0.nx from appS_nx _ rs 0 st0, show T.nx = st0.nx from appS_nx _ rs 0 st0])
                (fun t ht => hWT_s t (.inl ht)) (fun l hl => hWT_ob l (.inl hl))
            have hop' : aop P (doctor W (usesOf ops o) need) (nx + i) (hintAt i hs) o = some (vck', .ok st'') := by rw [hdoc]; exact hop
            have hSame := rest_same E (memN · need)
            have hgood : Good (restE E (memN · need)) (doctor W (usesOf ops o) need) a w := by
              refine ⟨hg.size, hg.defs, fun d => ?_, rest_real hg.objs ?_⟩
              · simp only [doctor]
                cases hm : memN d (usesOf ops o) with
                | false => simp only [cond_false, rep]
                | true =>
                  have hd := memN_iff.1 hm
                  simp only [cond_true]
                  refine (rep_ren hSame _ _ ?_).2 (by rw [ren_id]; exact hg.slots d)
                  rw [hWT_s d (.inl hd)]
                  exact List.all_eq_true.1 k1 d hd
              · intro l x hl hx
                have hl' := memN_iff.1 hl
                have := List.all_eq_true.1 k2 l hl'
                rw [show (appS (fun j => Nat.blt j i) rs 0 st0).ob l = T.ob l from rfl, ← hWT_ob l (.inl hl'), hx] at this
                exact this
            have hstep := aop_step hop' hr3 Q (restE E (memN · need)) (mod (restE E (memN · need)) (doctor W (usesOf ops o) need).ob) w a w ⟨_, hgood, Ext.refl _ _ _, LocKept.refl _⟩
            refine Oper.wp_mono (fun a' w' hpost => hnext a' w' ?_) hstep
            obtain ⟨⟨x, rfl⟩, E', hg', he', hk'⟩ := hpost
            have hkeys : ∀ l, l ∈ chg (doctor W (usesOf ops o) need) o (nx + i) (hintAt i hs) → lookO l (deltaOf st''.ob (chg (doctor T (usesOf ops o) need) o (nx + i) (hintAt i hs))) = st''.ob l := by
              intro l hl; rw [hdoc] at hl; exact deltaOf_look hl
            have hnot : ∀ l, l ∉ chg (doctor W (usesOf ops o) need) o (nx + i) (hintAt i hs) → st''.ob l = restO W.ob (memN · need) l ∧ lookO l (deltaOf st''.ob (chg (doctor T (usesOf ops o) need) o (nx + i) (hintAt i hs))) = none := by
              intro l hl
              exact ⟨aop_chg hop' l hl, by rw [hdoc] at hl; exact deltaOf_not hl⟩
            have hnew : ∀ l, memN l need = false → (st''.ob l).isSome = true → W.ob l = none := by
              intro l hl hsome
              by_cases hc : l ∈ chg (doctor W (usesOf ops o) need) o (nx + i) (hintAt i hs)
              · have hlk := hkeys l hc
                cases hx : st''.ob l with
                | none => rw [hx] at hsome; simp at hsome
                | some x =>
                  rw [hx] at hlk
                  have hmm := lookO_mem hlk
                  have := List.all_eq_true.1 k3 _ hmm
                  simp only [hl, Bool.false_or, Option.isNone_iff_eq_none] at this
                  rw [hWT_ob l (.inr (lookO_key hlk))]
                  exact this
              · rw [(hnot l hc).1] at hsome
                simp only [restO, hl, cond_false] at hsome
                simp at hsome
            obtain ⟨m1, m2, m3, m4⟩ := over_real hg (D := (memN · need)) hg'.objs he' hk' hnew
            have hf' : W.fits o.dst = true := by
              have e1 : W.n = (appS (fun j => Nat.blt j i) rs 0 st0).n := (appS_n _ rs 0 st0).trans (appS_n _ rs 0 st0).symm
              cases hd : o.dst with
              | none => rfl
              | some d => simp only [hd, St.fits] at k4 ⊢; rw [e1]; exact k4
            have hIe : ImmKept E'.imm (overE E' E (memN · need)).imm w' w' := fun b o h => ⟨h, rfl⟩
            rw [← hS' ({ W with ob := overO st''.ob W.ob }.set o.dst (match o.dst with
                | some d => st''.s d
                | none => .dead)) (by cases o.dst <;> rfl) (by cases o.dst <;> rfl) (by cases hd : o.dst <;> simp [St.set, app1s, hd]) (by
              intro l
              rw [set_ob]
              show overO st''.ob W.ob l = _
              simp only [overO]
              by_cases hc : l ∈ chg (doctor W (usesOf ops o) need) o (nx + i) (hintAt i hs)
              · rw [hkeys l hc]
              · obtain ⟨q1, q2⟩ := hnot l hc
                rw [q1, q2]
                simp only [restO]
                cases hm : memN l need with
                | false => rfl
                | true =>
                  simp only [cond_true]
                  cases W.ob l <;> rfl)]
            refine Rl.put m1 (he.trans m2) (hk.trans m3) (by cases hd : o.dst <;> simpa [St.fits, hd] using hf') ?_
            cases hd : o.dst with
            | none => simp only [rep]
            | some d =>
              have hs'' := hg'.slots d
              have hdl : d < a.tmps.size := by
                rw [hg.size]
                simp only [hd, St.fits] at hf'
                exact blt_lt hf'
              simp only [hd, Act.put, Array.getD_eq_getD_getElem?, Array.getElem?_setIfInBounds_self_of_lt hdl, Option.getD_some] at hs''
              exact rep_mono hIe m4 _ _ hs''
        · simp at hr2
      · simp at hr2

end

/-- What a region that draws owes. -/
def aregD (P : Program) (nx : Nat) (ops : Array Oper) (hs : List HintX) (st : St) : Option (VC × ORes) := match trace P nx ops hs ops.toList 0 st with
  | some (vc, rs) => bif P.follows .mixedOrders && backOk ops.toList 0 && allOk (befL ops.toList []) rs rs 0 then some (vc, .ok (appS (fun _ => true) rs 0 st)) else none
  | none => none

theorem at_replicate (n i : Nat) : at_ (Array.replicate n false) i = false := by
  simp only [at_, Array.getD_eq_getD_getElem?, Array.getElem?_replicate]
  split <;> rfl

theorem aregD_run {P : Program} {nx : Nat} {ops : Array Oper} {hs : List HintX} {st : St} {vc : VC} {r : ORes} (h : aregD P nx ops hs st = some (vc, r)) (hv : holds vc) {E0 : Env} {M0 : Nat → Prop} {w0 : World} {Q : Exit → Act → World → Prop}
    (hq : After E0 M0 w0 Q r) {a : Act} {w : World} (hr : Rl E0 M0 w0 st a w) (id : Nat) : (Code.region id ops true).wp P Q a w := by
  unfold aregD at h
  split at h
  · rename_i vc' rs htr
    cases hb : P.follows .mixedOrders && backOk ops.toList 0 && allOk (befL ops.toList []) rs rs 0 with
    | false => rw [hb] at h; simp at h
    | true =>
      rw [hb] at h
      simp only [cond_true, Option.some.injEq, Prod.mk.injEq] at h
      obtain ⟨rfl, rfl⟩ := h
      simp only [Bool.and_eq_true] at hb
      obtain ⟨⟨b1, b2⟩, b3⟩ := hb
      refine wp_region_any b1 ?_
      have hr' : Rl E0 M0 w0 st a { w with drawn := w.drawn + 1 } := hr.drew
      have hcnt : cnt (at_ (Array.replicate ops.size false)) ops.size = ops.size := by
        have : ∀ n, cnt (at_ (Array.replicate ops.size false)) n = n := by
          intro n
          induction n with
          | zero => rfl
          | succ n ih => simp only [cnt, ih, at_replicate, cond_false]
        exact this _
      refine any_run htr hv b2 b3 hq ops.size _ a _ (by simp) (fun i o _ hl => by rw [at_replicate] at hl; simp at hl) hcnt ?_
      rw [appS_congr (p := at_ (Array.replicate ops.size false)) (q := fun _ => false) rs 0 st (fun j _ => at_replicate _ _)]
      have hnone : ∀ (rs : List Rec) (j : Nat) (s : St), appS (fun _ => false) rs j s = s := by
        intro rs; induction rs with
        | nil => intro j s; rfl
        | cons r rs ih => intro j s; simp only [appS, cond_false]; exact ih _ _
      rw [hnone]; exact hr'
  · simp at h

end Go.Proofs.Fw
