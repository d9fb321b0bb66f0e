/- A whole function, told: the text. -/
import Derived.Test.YtnjcokelpolpcaaGreatFwU
import Derived.LoopN
set_option linter.unusedVariables false
set_option linter.unusedSimpArgs false
set_option linter.unusedSectionVars false
set_option linter.unnecessarySimpa false
namespace Go.Proofs.Fw
open Go Go.RowKit

/-! ### the text, with what is told besides -/
inductive Orc where
  | nil
  | unroll (n : Nat) (k : Orc)
  | const (k : Orc)
  | bound (i : Nat) (k : Orc)
  | adopt (l e sz : Nat) (ss : List Nat) (bs : List (Nat × Nat)) (k : Orc)
  | reg (id : Nat) (hs : List HintX) (k : Orc)
  | split (b : Bool) (t e : Orc)
  | nilq (t e : Orc)
  | clrq (k : Orc)
  | rename (l l2 : Nat) (ss : List Nat) (k : Orc)
  | sjoin (b : Bool) (d : SD) (p : Prop) (t e k : Orc)
  | br (t e : Orc)
  | join (d : SD) (p : Prop) (t e k : Orc)
  | weak (d : SD) (k : Orc)
  | share (ls : List Nat) (k : Orc)
  | loop (N : Nat) (I : Nat → SD) (k : Nat → Orc)
  | fin (ns : List Nat)

/-- A nil list is seen as a row of one's own. -/
def adoptV (l : Nat) : V → V
  | .lit (.slice none 0 0) => .sref l 0
  | v => v
def modN (f : V → V) : Nat → List V → List V
  | _, [] => []
  | 0, v :: vs => f v :: vs
  | n + 1, v :: vs => v :: modN f n vs
def adoptB (l : Nat) (ob : Nat → Option Ob) : List (Nat × Nat) → Nat → Option Ob
  | [] => ob
  | (b, j) :: r => match adoptB l ob r b with
    | some (.box T cs) => updf (adoptB l ob r) b (some (.box T (modN (adoptV l) j cs)))
    | _ => adoptB l ob r
def adoptSt (st : St) (l e sz : Nat) (ss : List Nat) (bs : List (Nat × Nat)) : St :=
  ⟨st.n, fun i => bif memN i ss then adoptV l (st.s i) else st.s i, adoptB l (updf st.ob l (some (.row e sz [] true))) bs, st.nx⟩

theorem adoptV_rep {E : Env} {w : World} {l : Nat} (hl : E.loc l = some ⟨0, .slice none 0 0, 0⟩) {v : V} {x : Value} (h : rep E w v x) : rep E w (adoptV l v) x := by
  unfold adoptV
  split
  · simp only [rep] at h ⊢
    subst h
    exact ⟨rfl, _, hl, Nat.le_refl _, fun _ => rfl⟩
  · exact h
theorem modN_rep {E : Env} {w : World} {l : Nat} (hl : E.loc l = some ⟨0, .slice none 0 0, 0⟩) : ∀ (j : Nat) (vs : List V) (xs : List Value), repL E w vs xs → repL E w (modN (adoptV l) j vs) xs
  | j, [], xs, h => by cases j <;> simpa only [modN] using h
  | 0, v :: vs, xs, h => by
    simp only [modN, repL] at h ⊢
    obtain ⟨y, ys, h1, h2, h3⟩ := h
    exact ⟨y, ys, h1, adoptV_rep hl h2, h3⟩
  | j + 1, v :: vs, xs, h => by
    simp only [modN, repL] at h ⊢
    obtain ⟨y, ys, h1, h2, h3⟩ := h
    exact ⟨y, ys, h1, h2, modN_rep hl j vs ys h3⟩
theorem adoptB_real {E : Env} {w : World} {l : Nat} (hl : E.loc l = some ⟨0, .slice none 0 0, 0⟩) {ob : Nat → Option Ob} (h : RealO E ob w) {E0 : Env} {M0 : Nat → Prop} {w0 : World} (he : Ext E0 M0 w0 E w ob) : ∀ (bs : List (Nat × Nat)), RealO E (adoptB l ob bs) w ∧ Ext E0 M0 w0 E w (adoptB l ob bs)
  | [] => ⟨h, he⟩
  | (b, j) :: r => by
    obtain ⟨ih, ihe⟩ := adoptB_real hl h he r
    simp only [adoptB]
    split
    · rename_i T cs hb
      have hI : ImmKept E.imm E.imm w w := fun _ _ h => ⟨h, rfl⟩
      refine ⟨ih.change b hI (LocKept.refl E) (fun _ _ => rfl) (fun l' h => updf_other _ _ h) ?_ ?_ ?_ ?_ ih.old, ?_⟩
      · rw [updf_same, ih.dom b, hb]; rfl
      · intro l' o' lc b' hne h1 h2 h3; exact ⟨rfl, fun i h => h⟩
      · intro o lc h1 h2
        simp only [updf_same, Option.some.injEq] at h1; subst h1
        obtain ⟨ys, q1, q2, q3⟩ := ih.ok b _ lc hb h2
        exact ⟨ys, q1, modN_rep hl j cs ys q2, q3⟩
      · intro o lc b' h1 h2 h3 l' o' lc' hne g1 g2 g3
        simp only [updf_same, Option.some.injEq] at h1; subst h1
        exact ih.disj l' b o' _ lc' lc b' hne g1 hb g2 h2 g3 (by simpa [blkOf] using h3)
      · refine ⟨ihe.os, ihe.tape, ihe.output, ihe.size, ihe.imm, ihe.blk, ?_, ihe.immNew⟩
        rintro k ⟨l', lc', o', g1, g2, g3⟩
        by_cases hne : l' = b
        · subst hne
          simp only [updf_same, Option.some.injEq] at g2; subst g2
          exact ihe.own k ⟨l', lc', _, g1, hb, by simpa [blkOf] using g3⟩
        · rw [updf_other _ _ hne] at g2
          exact ihe.own k ⟨l', lc', o', g1, g2, g3⟩
    · exact ⟨ih, ihe⟩
theorem Rl.adopt {E0 : Env} {M0 : Nat → Prop} {w0 : World} {st : St} {a : Act} {w : World} (h : Rl E0 M0 w0 st a w) {l e sz : Nat} (hl : st.ob l = none) (h0 : 0 < sz) (ss : List Nat) (bs : List (Nat × Nat)) : Rl E0 M0 w0 (adoptSt st l e sz ss bs) a w := by
  obtain ⟨E, hg, he, hk⟩ := h
  obtain ⟨g1, g2, g3⟩ := adopt_nil hg hl (e := e) h0 true
  have hlc : (E.put l ⟨0, .slice none 0 0, 0⟩).loc l = some ⟨0, .slice none 0 0, 0⟩ := by simp only [Env.put]; exact updf_same _ _ _
  obtain ⟨r1, r2⟩ := adoptB_real hlc g1.objs (he.trans g2) bs
  refine ⟨_, ⟨g1.size, g1.defs, fun i => ?_, r1⟩, r2, hk.trans g3⟩
  simp only [adoptSt]
  cases memN i ss with
  | true => exact adoptV_rep hlc (g1.slots i)
  | false => exact g1.slots i

inductive Ex where
  | norm | ret
  | exit (id : Nat)
  | pan (v : Value)
def Ex.of : Ex → Exit
  | .norm => .normal
  | .ret => .ret
  | .exit id => .exit id
  | .pan v => .panic [{ v, recovered := false }]

/-- What is told before the text goes on. -/
def peel (np : Nat) (K : Orc → St → Prop) : Orc → St → Prop
  | .split b t e, st => (b = true → peel np K t st) ∧ (b = false → peel np K e st)
  | .weak d k, st => weakP np st d ∧ peel np K k d.st
  | .share ls k, st => peel np K k (shares st ls)
  | .bound i k, st => match st.s i with
    | .sl _ rows => rows.length ≤ 9223372036854775807 → peel np K k st
    | .sref l _ => match st.ob l with
      | some (.row _ _ rows _) => rows.length ≤ 9223372036854775807 → peel np K k st
      | _ => False
    | _ => False
  | .rename l l2 ss k, st => match st.ob l, st.ob l2 with
    | some (.row e sz rows true), none => renOk st l rows.length ss ∧ peel np K k (renSt st l l2 e sz rows ss)
    | _, _ => False
  | .adopt l e sz ss bs k, st => match st.ob l, sz with
    | none, sz + 1 => peel np K k (adoptSt st l e (sz + 1) ss bs)
    | _, _ => False
  | o, st => K o st

theorem peel_run {np : Nat} {K : Orc → St → Prop} {E0 : Env} {M0 : Nat → Prop} {w0 : World} (h0 : ∀ l, (E0.loc l).isSome = true → l < np) {a : Act} {w : World} {G : Prop} (hK : ∀ o st, K o st → Rl E0 M0 w0 st a w → G) :
    ∀ (o : Orc) (st : St), peel np K o st → Rl E0 M0 w0 st a w → G
  | .split b t e, st, h, hr => by
    simp only [peel] at h
    cases b with
    | true => exact peel_run h0 hK t st (h.1 rfl) hr
    | false => exact peel_run h0 hK e st (h.2 rfl) hr
  | .weak d k, st, h, hr => by
    simp only [peel] at h
    exact peel_run h0 hK k d.st h.2 (hr.weak h0 h.1)
  | .share ls k, st, h, hr => by
    simp only [peel] at h
    exact peel_run h0 hK k _ h hr.sharesL
  | .bound i k, st, h, hr => by
    simp only [peel] at h
    obtain ⟨E, hg, he, hk⟩ := id hr
    have hs := hg.slots i
    split at h
    · rename_i sz rows hv
      rw [hv] at hs; simp only [rep, irep] at hs
      obtain ⟨ad, cap, _, ⟨h1, h2⟩, _⟩ := hs
      exact peel_run h0 hK k st (h (by unfold maxLen at h2; omega)) hr
    · rename_i l n hv
      split at h
      · rename_i e sz rows wr ho
        rw [hv] at hs; simp only [rep] at hs
        obtain ⟨_, lc, h1, _⟩ := hs
        obtain ⟨_, _, _, xs, q4, _⟩ := hg.objs.ok l _ lc ho h1
        refine peel_run h0 hK k st (h ?_) hr
        rcases q4.2 with ⟨_, h6⟩ | ⟨g, cap, cur, _, _, _, h7, h8, _⟩
        · omega
        · unfold maxLen at h8; omega
      · exact h.elim
    · exact h.elim
  | .adopt l e sz ss bs k, st, h, hr => by
    simp only [peel] at h
    split at h
    · rename_i sz' hl
      exact peel_run h0 hK k _ h (hr.adopt hl (Nat.succ_pos _) ss bs)
    · exact h.elim
  | .rename l l2 ss k, st, h, hr => by
    simp only [peel] at h
    split at h
    · rename_i e sz rows ho hl
      exact peel_run h0 hK k _ h.2 (hr.renamed ho hl h.1)
    · exact h.elim
  | .nil, st, h, hr | .nilq .., st, h, hr | .clrq .., st, h, hr | .sjoin .., st, h, hr | .unroll .., st, h, hr | .const .., st, h, hr | .reg .., st, h, hr | .br .., st, h, hr | .join .., st, h, hr | .loop .., st, h, hr | .fin .., st, h, hr => hK _ st (by simpa only [peel] using h) hr

def regOf (id : Nat) (o : Orc) : List HintX × Orc := match o with
  | .reg id' hs k => bif Nat.beq id id' then (hs, k) else ([], o)
  | o => ([], o)

def owe (vc : VC) (p : Prop) : Prop := match vc with
  | none => p
  | some q => q ∧ p
theorem owe_holds {vc : VC} {p : Prop} (h : owe vc p) : holds vc ∧ p := by
  cases vc <;> simp only [owe, holds] at h ⊢ <;> first | exact ⟨trivial, h⟩ | exact h
def afterReg (r : Option (VC × ORes)) (K : Ex → St → Prop) : Prop := match r with
  | some (vc, .ok st) => owe vc (K .norm { st with nx := st.nx + 100 })
  | some (vc, .pan v st) => owe vc (K (.pan v) st)
  | none => False

def atJoin (np : Nat) (d : SD) (p : Prop) (K : Ex → St → Orc → Prop) (ex : Ex) (st : St) (o : Orc) : Prop := match ex with
  | .norm => peel np (fun _ st' => weakP np st' d ∧ p) o st
  | ex => K ex st o

/-- A region on two ways, and what both come to. -/
def regJ (np : Nat) (run : (Ex → St → Orc → Prop) → Orc → St → Prop) : Orc → (Ex → St → Orc → Prop) → St → Prop
  | .sjoin b d p t e k, K, st => (b = true → regJ np run t (atJoin np d p K) st) ∧ (b = false → regJ np run e (atJoin np d p K) st) ∧ (p → K .norm d.st k)
  | .split b t e, K, st => (b = true → regJ np run t K st) ∧ (b = false → regJ np run e K st)
  | o, K, st => peel np (run K) o st

theorem atJoin_run {np : Nat} {E0 : Env} {M0 : Nat → Prop} {w0 : World} (h0 : ∀ l, (E0.loc l).isSome = true → l < np) {d : SD} {p : Prop} {K : Ex → St → Orc → Prop} {k : Orc} {Q : Exit → Act → World → Prop}
    (h3 : p → K .norm d.st k) (hK : ∀ ex st' o' a' w', K ex st' o' → Rl E0 M0 w0 st' a' w' → Q ex.of a' w') : ∀ (ex : Ex) st' o' a' w', atJoin np d p K ex st' o' → Rl E0 M0 w0 st' a' w' → Q ex.of a' w' := by
  intro ex st' o' a' w' hk hr'
  cases ex with
  | norm => exact peel_run h0 (fun _ st'' hw hr'' => hK .norm _ _ a' w' (h3 hw.2) (hr''.weak h0 hw.1)) o' st' hk hr'
  | ret => exact hK _ _ _ a' w' hk hr'
  | exit id => exact hK _ _ _ a' w' hk hr'
  | pan v => exact hK _ _ _ a' w' hk hr'
theorem regJ_run {np : Nat} {E0 : Env} {M0 : Nat → Prop} {w0 : World} (h0 : ∀ l, (E0.loc l).isSome = true → l < np) {run : (Ex → St → Orc → Prop) → Orc → St → Prop} {a : Act} {w : World} {G : Prop} {Q : Exit → Act → World → Prop}
    (hrun : ∀ K o st, run K o st → Rl E0 M0 w0 st a w → (∀ ex st' o' a' w', K ex st' o' → Rl E0 M0 w0 st' a' w' → Q ex.of a' w') → G) :
    ∀ (o : Orc) (K : Ex → St → Orc → Prop) (st : St), regJ np run o K st → Rl E0 M0 w0 st a w → (∀ ex st' o' a' w', K ex st' o' → Rl E0 M0 w0 st' a' w' → Q ex.of a' w') → G
  | .sjoin b d p t e k, K, st, h, hr, hK => by
    simp only [regJ] at h
    obtain ⟨h1, h2, h3⟩ := h
    cases b with
    | true => exact regJ_run h0 hrun t _ st (h1 rfl) hr (atJoin_run h0 h3 hK)
    | false => exact regJ_run h0 hrun e _ st (h2 rfl) hr (atJoin_run h0 h3 hK)
  | .split b t e, K, st, h, hr, hK => by
    simp only [regJ] at h
    cases b with
    | true => exact regJ_run h0 hrun t K st (h.1 rfl) hr hK
    | false => exact regJ_run h0 hrun e K st (h.2 rfl) hr hK
  | .nilq .., K, st, h, hr, hK | .clrq .., K, st, h, hr, hK | .rename .., K, st, h, hr, hK | .weak .., K, st, h, hr, hK | .share .., K, st, h, hr, hK | .bound .., K, st, h, hr, hK | .adopt .., K, st, h, hr, hK
  | .nil, K, st, h, hr, hK | .unroll .., K, st, h, hr, hK | .const .., K, st, h, hr, hK | .reg .., K, st, h, hr, hK | .br .., K, st, h, hr, hK | .join .., K, st, h, hr, hK | .loop .., K, st, h, hr, hK | .fin .., K, st, h, hr, hK => by
    simp only [regJ] at h
    exact peel_run h0 (fun o st h hr => hrun K o st h hr hK) _ st h hr

/-- A loop, by what holds ahead of each round. -/
def loopInv (np : Nat) (F : (Ex → St → Orc → Prop) → Orc → St → Prop) (K : Ex → St → Orc → Prop) (o : Orc) (st : St) : Prop := match o with
  | .loop N I k => weakP np st (I 0) ∧ ∀ i, i ≤ N → F (fun ex st' o' => match ex with
    | .norm => i < N ∧ peel np (fun _ st'' => weakP np st'' (I (i + 1))) o' st'
    | ex => K ex st' o') (k i) (I i).st
  | _ => False
/-- Some rounds, and the loop's rest. -/
def rounds (np : Nat) (F : (Ex → St → Orc → Prop) → Orc → St → Prop) (K : Ex → St → Orc → Prop) : Nat → Orc → St → Prop
  | 0 => peel np (loopInv np F K)
  | n + 1 => F fun ex st o => match ex with
    | .norm => rounds np F K n o st
    | ex => K ex st o

/-- A region in the text's order. -/
def regRun (P : Program) (id : Nat) (ops : Array Oper) (K : Ex → St → Orc → Prop) (o : Orc) (st : St) : Prop := match o with
  | .nilq o1 o2 => match nilReg P st ops with
    | some q => (q.rows = [] → K .norm { (st.set (some q.d1) q.v).set q.d2 (.lit (.bool true)) with nx := st.nx + 100 } o1) ∧ K .norm { (st.set (some q.d1) q.v).set q.d2 (.lit (.bool false)) with nx := st.nx + 100 } o2
    | none => False
  | .clrq k => match clrReg P st ops with
    | some q => (q.n = q.rows.length ∧ 0 ≤ q.i ∧ q.i ≤ (q.rows.length : Int)) ∧ K .norm { q.st st with nx := st.nx + 100 } k
    | none => False
  | o => afterReg (aregL P st.nx ops (regOf id o).1 ops.toList 0 st) fun ex st' => K ex st' (regOf id o).2

def AWp (P : Program) (np : Nat) : Code → (Ex → St → Orc → Prop) → Orc → St → Prop
  | .skip, K => fun o st => K .norm st o
  | .label _, K => fun o st => K .norm st o
  | .region id ops draw, K => peel np fun o st => regJ np (fun K o st => match draw with
    | false => regRun P id ops K o st
    | true => afterReg (aregD P st.nx ops (regOf id o).1 st) fun ex st' => K ex st' (regOf id o).2) o K st
  | .seq a b, K => AWp P np a fun ex st o => match ex with
    | .norm => AWp P np b K o st
    | ex => K ex st o
  | .cond c t e, K => peel np fun o st => match ev st c with
    | .lit (.bool b) => match o with
      | .br o1 o2 => (b = true → AWp P np t K o1 st) ∧ (b = false → AWp P np e K o2 st)
      | .join d p o1 o2 k => (b = true → AWp P np t (atJoin np d p K) o1 st) ∧ (b = false → AWp P np e (atJoin np d p K) o2 st) ∧ (p → K .norm d.st k)
      | .const k => match b with
        | true => AWp P np t K k st
        | false => AWp P np e K k st
      | o => match b with
        | true => AWp P np t K o st
        | false => AWp P np e K o st
    | _ => False
  | .block id b, K => AWp P np b fun ex st o => match ex with
    | .exit id' => bif Nat.beq id' id then K .norm st o else K ex st o
    | ex => K ex st o
  | .loop b, K => peel np fun o st => match o with
    | .unroll n o' => rounds np (AWp P np b) K n o' st
    | o => loopInv np (AWp P np b) K o st
  | .exit id, K => fun o st => K (.exit id) st o
  | .ret, K => fun o st => K .ret st o
  | _, _ => fun _ _ => False

theorem Rl.nx {E0 : Env} {M0 : Nat → Prop} {w0 : World} {st : St} {a : Act} {w : World} (h : Rl E0 M0 w0 st a w) (n : Nat) : Rl E0 M0 w0 { st with nx := n } a w := by
  obtain ⟨E, hg, he, hk⟩ := h
  exact ⟨E, ⟨hg.size, hg.defs, hg.slots, hg.objs⟩, he, hk⟩

/-- A loop, from its body on. -/
def LoopGo (P : Program) (c : Code) (Q : Exit → Act → World → Prop) (a : Act) (w : World) : Prop :=
  ∀ (b : Frame) (k : List Item) (cs : List Frame), ∃ e a' w', Q e a' w' ∧ Arrives P (lone (b.at a (.code c :: .inLoop c :: k)) cs w) b k cs e a' w'
theorem LoopGo.wp {P : Program} {Q : Exit → Act → World → Prop} {a : Act} {w : World} {c : Code} (h : LoopGo P c Q a w) : (Code.loop c).wp P Q a w := by
  intro b k cs
  obtain ⟨e, a', w', hq, harr⟩ := h b k cs
  exact ⟨e, a', w', hq, .of_steps (.one step_loop) harr⟩
theorem LoopGo.step {P : Program} {Q : Exit → Act → World → Prop} {a : Act} {w : World} {c : Code} (h : c.wp P (Exit.then (LoopGo P c Q) Q) a w) : LoopGo P c Q a w := by
  intro b k cs
  obtain ⟨e, a₁, w₁, hq, harr⟩ := h b (.inLoop c :: k) cs
  cases e with
  | normal =>
    obtain ⟨e₂, a₂, w₂, hq₂, harr₂⟩ := hq b k cs
    exact ⟨e₂, a₂, w₂, hq₂, .of_steps (Steps.trans harr (.one step_inLoop)) harr₂⟩
  | exit id => exact ⟨_, a₁, w₁, hq, .pass (x := .inLoop c) rfl (fun _ _ => .inl (by simp)) harr⟩
  | goto l => exact ⟨_, a₁, w₁, hq, .pass (x := .inLoop c) rfl (fun _ _ => .inl (by simp)) harr⟩
  | ret => exact ⟨_, a₁, w₁, hq, .pass (x := .inLoop c) rfl (fun _ _ => .inl (by simp)) harr⟩
  | panic ch => exact ⟨_, a₁, w₁, hq, .pass (x := .inLoop c) rfl (fun _ _ => .inl (by simp)) harr⟩
  | outgrown => exact ⟨_, a₁, w₁, hq, .pass (x := .inLoop c) rfl (fun _ _ => .inl (by simp)) harr⟩
theorem LoopGo.ghost {P : Program} {Q : Exit → Act → World → Prop} {c : Code} (I : Nat → Act → World → Prop)
    (round : ∀ n a w, I n a w → c.wp P (Exit.then (fun a' w' => ∃ n', n' < n ∧ I n' a' w') Q) a w) : ∀ n a w, I n a w → LoopGo P c Q a w := by
  intro n
  induction n using Nat.strongRecOn with
  | _ n ih =>
    intro a w h
    refine LoopGo.step (wp_mono (round n a w h) ?_)
    intro e a' w' hq
    cases e with
    | normal =>
      obtain ⟨n', hlt, hI⟩ := hq
      exact ih n' hlt a' w' hI
    | exit id => exact hq
    | goto l => exact hq
    | ret => exact hq
    | panic ch => exact hq
    | outgrown => exact hq

theorem AWp_run {P : Program} {np : Nat} {E0 : Env} {M0 : Nat → Prop} {w0 : World} (h0 : ∀ l, (E0.loc l).isSome = true → l < np) : ∀ (c : Code) (K : Ex → St → Orc → Prop) (Q : Exit → Act → World → Prop) (o : Orc) (st : St) (a : Act) (w : World),
    AWp P np c K o st → Rl E0 M0 w0 st a w → (∀ ex st' o' a' w', K ex st' o' → Rl E0 M0 w0 st' a' w' → Q ex.of a' w') → c.wp P Q a w := by
  intro c
  induction c with
  | skip => intro K Q o st a w h hr hK; exact wp_skip (hK .norm st o a w h hr)
  | label l => intro K Q o st a w h hr hK; exact wp_label (hK .norm st o a w h hr)
  | exit id => intro K Q o st a w h hr hK; exact wp_exit (hK (.exit id) st o a w h hr)
  | ret => intro K Q o st a w h hr hK; exact wp_ret (hK .ret st o a w h hr)
  | region id ops draw =>
    intro K Q o st a w h hr hK
    refine peel_run h0 (fun o st h hr => ?_) o st h hr
    refine regJ_run h0 (Q := Q) (fun K o st h hr hK => ?_) o K st h hr hK
    cases draw with
    | true =>
      simp only [afterReg] at h
      split at h
      · rename_i vc st' he
        refine aregD_run he (owe_holds h).1 ?_ hr id
        exact fun a' w' hr' => hK .norm _ _ a' w' (owe_holds h).2 (hr'.nx _)
      · rename_i vc v st' he
        refine aregD_run he (owe_holds h).1 ?_ hr id
        exact fun a' w' hr' => hK (.pan v) _ _ a' w' (owe_holds h).2 hr'
      · exact h.elim
    | false =>
      simp only [regRun] at h
      split at h
      · rename_i o1 o2
        split at h
        · rename_i q hq
          refine wp_region_list (nilReg_run hq hr (fun he a' hr' => ?_) (fun a' hr' => ?_))
          · exact hK .norm _ _ a' w (h.1 he) (hr'.nx _)
          · exact hK .norm _ _ a' w h.2 (hr'.nx _)
        · exact h.elim
      · rename_i k
        split at h
        · rename_i q hq
          refine wp_region_list (clrReg_run hq h.1.1 h.1.2.1 h.1.2.2 hr (fun a' w' hr' => ?_))
          exact hK .norm _ _ a' w' h.2 (hr'.nx _)
        · exact h.elim
      simp only [afterReg] at h
      split at h
      · rename_i vc st' he
        refine wp_region_list (aregL_run ops.toList 0 st vc _ he (owe_holds h).1 ?_ a w hr)
        exact fun a' w' hr' => hK .norm _ _ a' w' (owe_holds h).2 (hr'.nx _)
      · rename_i vc v st' he
        refine wp_region_list (aregL_run ops.toList 0 st vc _ he (owe_holds h).1 ?_ a w hr)
        exact fun a' w' hr' => hK (.pan v) _ _ a' w' (owe_holds h).2 hr'
      · exact h.elim
  | seq x y ihx ihy =>
    intro K Q o st a w h hr hK
    refine wp_seq ?_
    refine ihx _ _ o st a w h hr ?_
    intro ex st' o' a' w' hk hr'
    cases ex with
    | norm => exact ihy K Q o' st' a' w' hk hr' hK
    | ret => exact hK _ _ _ a' w' hk hr'
    | exit id => exact hK _ _ _ a' w' hk hr'
    | pan v => exact hK _ _ _ a' w' hk hr'
  | cond c t e iht ihe =>
    intro K Q o st a w h hr hK
    refine peel_run h0 (fun o st h hr => ?_) o st h hr
    obtain ⟨E, hg, _⟩ := id hr
    have hc := ev_rep hg c
    split at h
    · rename_i b he; rw [he] at hc; simp only [rep] at hc
      split at h
      · rename_i o1 o2
        exact wp_cond_split hc (fun hb => iht K Q o1 st a w (h.1 hb) hr hK) (fun hb => ihe K Q o2 st a w (h.2 hb) hr hK)
      · rename_i d p o1 o2 k
        obtain ⟨h1, h2, h3⟩ := h
        have hJ : ∀ (ex : Ex) st' o' a' w', atJoin np d p K ex st' o' → Rl E0 M0 w0 st' a' w' → Q ex.of a' w' := by
          intro ex st' o' a' w' hk hr'
          cases ex with
          | norm => exact peel_run h0 (fun _ st'' hw hr'' => hK .norm _ _ a' w' (h3 hw.2) (hr''.weak h0 hw.1)) o' st' hk hr'
          | ret => exact hK _ _ _ a' w' hk hr'
          | exit id => exact hK _ _ _ a' w' hk hr'
          | pan v => exact hK _ _ _ a' w' hk hr'
        exact wp_cond_split hc (fun hb => iht _ Q o1 st a w (h1 hb) hr hJ) (fun hb => ihe _ Q o2 st a w (h2 hb) hr hJ)
      · cases b with
        | true => exact wp_cond_true hc (iht K Q _ st a w h hr hK)
        | false => exact wp_cond_false hc (ihe K Q _ st a w h hr hK)
      · cases b with
        | true => exact wp_cond_true hc (iht K Q _ st a w h hr hK)
        | false => exact wp_cond_false hc (ihe K Q _ st a w h hr hK)
    · exact h.elim
  | block id b ih =>
    intro K Q o st a w h hr hK
    refine wp_block ?_
    refine ih _ _ o st a w h hr ?_
    intro ex st' o' a' w' hk hr'
    cases ex with
    | norm => exact hK _ _ _ a' w' hk hr'
    | ret => exact hK _ _ _ a' w' hk hr'
    | exit id' =>
      simp only [Ex.of, Exit.inBlock]
      cases hb : Nat.beq id' id with
      | true =>
        simp only [hb, cond_true] at hk
        rw [if_pos (Nat.eq_of_beq_eq_true hb)]
        exact hK .norm _ _ a' w' hk hr'
      | false =>
        simp only [hb, cond_false] at hk
        have : id' ≠ id := by rintro rfl; simp at hb
        rw [if_neg this]
        exact hK (.exit id') _ _ a' w' hk hr'
    | pan v => exact hK _ _ _ a' w' hk hr'
  | loop b ih =>
    intro K Q o st a w h hr hK
    have hinv : ∀ o st a w, loopInv np (AWp P np b) K o st → Rl E0 M0 w0 st a w → LoopGo P b Q a w := by
      intro o st a w h hr
      unfold loopInv at h
      split at h
      · rename_i N I k
        obtain ⟨h1, h2⟩ := h
        refine LoopGo.ghost (fun n a w => ∃ i, i ≤ N ∧ n = N - i ∧ Rl E0 M0 w0 (I i).st a w) ?_ N a w ⟨0, Nat.zero_le _, by omega, hr.weak h0 h1⟩
        rintro n a w ⟨i, hi, rfl, hri⟩
        refine ih _ _ (k i) (I i).st a w (h2 i hi) hri ?_
        intro ex st' o' a' w' hk hr'
        cases ex with
        | norm =>
          have hw : Rl E0 M0 w0 (I (i + 1)).st a' w' := peel_run h0 (fun _ st'' hw hr'' => hr''.weak h0 hw) o' st' hk.2 hr'
          exact ⟨N - (i + 1), by have := hk.1; omega, i + 1, hk.1, rfl, hw⟩
        | ret => exact hK _ _ _ a' w' hk hr'
        | exit id => exact hK _ _ _ a' w' hk hr'
        | pan v => exact hK _ _ _ a' w' hk hr'
      · exact h.elim
    refine peel_run h0 (fun o st h hr => ?_) o st h hr
    split at h
    · rename_i n o'
      have key : ∀ (n : Nat) (o : Orc) (st : St) (a : Act) (w : World), rounds np (AWp P np b) K n o st → Rl E0 M0 w0 st a w → LoopGo P b Q a w := by
        intro n
        induction n with
        | zero =>
          intro o st a w h hr
          simp only [rounds] at h
          exact peel_run h0 (fun o st h hr => hinv o st _ _ h hr) o st h hr
        | succ n ihn =>
          intro o st a w h hr
          simp only [rounds] at h
          refine LoopGo.step ?_
          refine ih _ _ o st a w h hr ?_
          intro ex st' o' a' w' hk hr'
          cases ex with
          | norm => exact ihn o' st' a' w' hk hr'
          | ret => exact hK _ _ _ a' w' hk hr'
          | exit id => exact hK _ _ _ a' w' hk hr'
          | pan v => exact hK _ _ _ a' w' hk hr'
      exact (key n o' st a w h hr).wp
    · exact (hinv _ st a w h hr).wp
  | rangeFunc f ps as b _ _ => intro K Q o st a w h hr hK; exact h.elim
  | goto l => intro K Q o st a w h hr hK; exact h.elim
  | scope b _ => intro K Q o st a w h hr hK; exact h.elim
  | refuse s => intro K Q o st a w h hr hK; exact h.elim

/-! ### from the text to the function -/
/-- A result: out of a slot, or out of a variable. -/
def resV (P : Program) (st : St) : ResultVar → Option V
  | .tmp t => some (st.s t)
  | .cell a T => match st.s a with
    | .ptr l o => match st.ob l with
      | some (.box _ cs) => aload P T cs o
      | _ => none
    | _ => none
def resVs (P : Program) (st : St) : List ResultVar → Option (List V)
  | [] => some []
  | r :: rs => match resV P st r, resVs P st rs with
    | some v, some vs => some (v :: vs)
    | _, _ => none
def retV : List V → V
  | [v] => v
  | vs => .tup vs

def resSem (tmps : Array Value) (r : ResultVar) : Sem Value := match r with
  | .tmp t => pure (tmps.getD t undef)
  | .cell b t => do loadVar t (← asAddr (tmps.getD b undef))
theorem results_eq (fn : Func) (tmps : Array Value) : results fn tmps = (do
    let vs ← fn.results.mapM (resSem tmps)
    pure (if h : vs.size = 1 then vs[0] else .tuple vs)) := by
  unfold results
  have : (fun (x : ResultVar) => match x with
      | .tmp t => (pure (tmps.getD t undef) : Sem Value)
      | .cell a t => do loadVar t (← asAddr (tmps.getD a undef))) = resSem tmps := by
    funext r; cases r <;> rfl
  rw [← this]
  rfl

theorem resV_run {P : Program} {E : Env} {st : St} {a : Act} {w : World} (hg : Good E st a w) {r : ResultVar} {v : V} (h : resV P st r = some v) :
    ∃ x, (resSem a.tmps r).run P w = .ok x w ∧ rep E w v x := by
  unfold resV at h
  split at h
  · rename_i t
    simp only [Option.some.injEq] at h; subst h
    exact ⟨_, rfl, hg.slots t⟩
  · rename_i b T
    split at h
    · rename_i l o hb
      split at h
      · rename_i cs ho
        have hx := hg.slots b
        rw [hb] at hx
        simp only [rep] at hx
        obtain ⟨lc, h1, h2⟩ := hx
        obtain ⟨ys, q1, q2, _⟩ := hg.objs.ok l _ lc ho h1
        obtain ⟨x, p1, p2⟩ := aload_box (P := P) h q1 q2
        exact ⟨x, by simp only [resSem, h2]; simp [asAddr, p1], p2⟩
      · simp at h
    · simp at h

theorem resVs_run {P : Program} {E : Env} {st : St} {a : Act} {w : World} (hg : Good E st a w) : ∀ {rs : List ResultVar} {vs : List V}, resVs P st rs = some vs →
    ∃ xs : List Value, (rs.mapM (m := Sem) (resSem a.tmps)).run P w = .ok xs w ∧ repL E w vs xs
  | [], vs, h => by simp only [resVs, Option.some.injEq] at h; subst h; exact ⟨[], by simp, by simp only [repL]⟩
  | r :: rs, vs, h => by
    simp only [resVs] at h
    split at h
    · rename_i v vs' h1 h2
      simp only [Option.some.injEq] at h; subst h
      obtain ⟨x, p1, p2⟩ := resV_run hg h1
      obtain ⟨xs, q1, q2⟩ := resVs_run hg h2
      refine ⟨x :: xs, ?_, by simp only [repL]; exact ⟨x, xs, rfl, p2, q2⟩⟩
      simp only [List.mapM_cons, Sem.run_bind, p1, Result.andThen_ok, q1, Sem.run_pure]
    · simp at h

theorem results_run {P : Program} {E : Env} {st : St} {a : Act} {w : World} (hg : Good E st a w) {fn : Func} {vs : List V} (h : resVs P st fn.results.toList = some vs) : ∃ x, (results fn a.tmps).run P w = .ok x w ∧ rep E w (retV vs) x := by
  obtain ⟨xs, q1, q2⟩ := resVs_run (P := P) hg h
  have hm : (fn.results.mapM (m := Sem) (resSem a.tmps)).run P w = .ok xs.toArray w := by
    rw [← Array.toArray_toList (xs := fn.results), List.mapM_toArray]
    simp only [Sem.run_map, q1, Result.andThen_ok]
  have hr : (results fn a.tmps).run P w = .ok (if h : xs.toArray.size = 1 then xs.toArray[0] else .tuple xs.toArray) w := by
    rw [results_eq]
    simp only [Sem.run_bind, hm, Result.andThen_ok, Sem.run_pure]
  refine ⟨_, hr, ?_⟩
  have hlen := repL_length q2
  cases vs with
  | nil => simp only [repL] at q2; subst q2; simp only [retV, rep]; exact ⟨[], by simp, by simp only [repL]⟩
  | cons v vs' =>
    simp only [repL] at q2
    obtain ⟨y, ys, rfl, g1, g2⟩ := q2
    cases vs' with
    | nil => simp only [repL] at g2; subst g2; simpa [retV] using g1
    | cons u us =>
      simp only [repL] at g2
      obtain ⟨z, zs, rfl, g3, g4⟩ := g2
      simp only [retV, rep]
      refine ⟨y :: z :: zs, by simp, by simp only [repL]; exact ⟨y, z :: zs, rfl, g1, z, zs, rfl, g3, g4⟩⟩

/-- The end: what is handed back, by the caller's names. -/
def finOk (np : Nat) (ns : List Nat) (obs : List Ob) : Bool :=
  natNodup ns && Nat.beq ns.length obs.length && Nat.ble np obs.length && ltAll (fun l => Nat.beq (ns.getD l 0) l) np && obs.all (Ob.bd (Nat.blt · obs.length))
def endFin (P : Program) (fn : Func) (np : Nat) (out : Out) (obs : List Ob) (ex : Ex) (o : Orc) (st : St) : Prop := match o with
  | .fin ns => match finOk np ns obs with
    | true => match ex, out with
      | .pan v, .pan v' => obsAt st.ob ns obs 0 true ∧ v = v'
      | .pan _, _ => False
      | .exit _, _ => False
      | _, .ret v => match V.bd (Nat.blt · obs.length) v, resVs P st fn.results.toList with
        | true, some vs => obsAt st.ob ns obs 0 true ∧ subV st.ob (retV vs) (v.ren (ns.getD · 0))
        | _, _ => False
      | _, _ => False
    | false => False
  | _ => False
def endOk (P : Program) (fn : Func) (np : Nat) (out : Out) (obs : List Ob) (ex : Ex) (st : St) (o : Orc) : Prop := peel np (endFin P fn np out obs ex) o st

theorem end_part {E0 : Env} {M0 : Nat → Prop} {w0 : World} {E : Env} {st : St} {a : Act} {w : World} {np : Nat} (h0 : ∀ l, (E0.loc l).isSome = true → l < np) (hg : Good E st a w) (he : Ext E0 M0 w0 E w st.ob) (hk : LocKept E0 E) {ns : List Nat} {obs : List Ob}
    (h1 : natNodup ns = true) (h2 : Nat.beq ns.length obs.length = true) (h3 : Nat.ble np obs.length = true) (h4 : ltAll (fun l => Nat.beq (ns.getD l 0) l) np = true) (h5 : obs.all (Ob.bd (Nat.blt · obs.length)) = true) (h6 : obsAt st.ob ns obs 0 true) :
    RealO (partE E ns obs.length) (ofL obs) w ∧ Ext E0 M0 w0 (partE E ns obs.length) w (ofL obs) ∧ LocKept E0 (partE E ns obs.length) ∧ Same (partE E ns obs.length) E (ns.getD · 0) (Nat.blt · obs.length) := by
  have hl := Nat.eq_of_beq_eq_true h2
  have hob : ∀ i, i < obs.length → st.ob (ns.getD i 0) = (obs[i]?).map (Ob.ren (ns.getD · 0)) := by
    intro i hi
    have := obsAt_get h6 i obs[i] (List.getElem?_eq_getElem hi)
    rw [Nat.zero_add] at this
    rw [this, List.getElem?_eq_getElem hi]; rfl
  refine ⟨part_real hg.objs (natNodup_nodup h1) (by omega) hob h5, ⟨he.os, he.tape, he.output, he.size, he.imm, he.blk, ?_, he.immNew⟩, ?_, ⟨fun l hl => by simp [partE, blt_lt hl], rfl⟩⟩
  · rintro k ⟨l, lc, o, g1, g2, g3⟩
    have hlt : l < obs.length := (List.getElem?_eq_some_iff.1 g2).1
    simp only [partE, if_pos hlt] at g1
    exact he.own k ⟨ns.getD l 0, lc, o.ren (ns.getD · 0), g1, by rw [hob l hlt, show obs[l]? = some o from g2]; rfl, by rw [blkOf_ren]; exact g3⟩
  · intro l lc hlc
    have hlt := h0 l (by rw [hlc]; rfl)
    have hn := Nat.eq_of_beq_eq_true (ltAll_get h4 l hlt)
    have : l < obs.length := Nat.lt_of_lt_of_le hlt (Nat.le_of_ble_eq_true h3)
    obtain ⟨lc', g1, g2⟩ := hk l lc hlc
    exact ⟨lc', by simp only [partE, if_pos this, hn]; exact g1, g2⟩

def startSt (fn : Func) (obs : List Ob) (args : List V) : St :=
  ⟨args.length + (fn.ntmps - args.length), fun i => args.getD i .dead, ofL obs, 1000⟩

theorem Fn.of {P : Program} {f : Nat} {fn : Func} {c : Code} (hf : P.funcs[f]? = some fn) (hb : fn.body = some c) {obs : List Ob} {args : List V} {out : Out} {obs2 : List Ob} (o : Orc)
    (h : AWp P obs.length c (endOk P fn obs.length out obs2) o (startSt fn obs args)) : Fn P f obs args (Is out obs2) := by
  intro E0 w0 vals hreal hargs
  have h0 : ∀ l, (E0.loc l).isSome = true → l < obs.length := by
    intro l hl
    rw [hreal.dom l] at hl
    cases ho : ofL obs l with
    | none => rw [ho] at hl; simp at hl
    | some o => exact (List.getElem?_eq_some_iff.1 ho).1
  refine calls_of_wp hf hb ?_
  have hlen := repL_length hargs
  have hstart : Rl E0 (mod E0 (ofL obs)) w0 (startSt fn obs args) { tmps := vals.toArray ++ Array.replicate (fn.ntmps - vals.toArray.size) undef, defers := [] } w0 := by
    refine ⟨E0, ⟨by simp [startSt, hlen], rfl, fun i => ?_, hreal⟩, Ext.refl E0 w0 _, LocKept.refl E0⟩
    show rep E0 w0 (args.getD i .dead) _
    rw [List.getD_eq_getElem?_getD]
    cases hi : args[i]? with
    | none => simp only [Option.getD_none, rep]
    | some v =>
      obtain ⟨x, h1, h2⟩ := repL_get i v hargs hi
      have hlt : i < vals.length := (List.getElem?_eq_some_iff.1 h1).1
      rw [Array.getD_eq_getD_getElem?, Array.getElem?_append_left (by simpa using hlt)]
      simp [h1]; exact h2
  refine AWp_run h0 c _ _ o _ _ _ h hstart ?_
  intro ex st' o' a' w' hk hr
  refine peel_run h0 (fun o st hh hr => ?_) o' st' hk hr
  unfold endFin at hh
  split at hh
  · rename_i ns
    split at hh
    · rename_i hfin
      simp only [finOk, Bool.and_eq_true] at hfin
      obtain ⟨⟨⟨⟨g1, g2⟩, g3⟩, g4⟩, g5⟩ := hfin
      obtain ⟨E, hg, he, hkk⟩ := hr
      split at hh
      · rename_i v v'
        obtain ⟨g6, rfl⟩ := hh
        obtain ⟨r1, r2, r3, r4⟩ := end_part h0 hg he hkk g1 g2 g3 g4 g5 g6
        exact ⟨hg.defs, _, obs2, _, ⟨rfl, rfl⟩, Nat.le_of_ble_eq_true g3, rfl, r1, r2, r3⟩
      · exact hh.elim
      · exact hh.elim
      · rename_i v hx1 hx2
        split at hh
        · rename_i vs g7 hvs
          obtain ⟨g6, g8⟩ := hh
          obtain ⟨r1, r2, r3, r4⟩ := end_part h0 hg he hkk g1 g2 g3 g4 g5 g6
          obtain ⟨x, p1, p2⟩ := results_run hg hvs
          have p3 := subV_rep hg _ _ x g8 p2
          have : bodyPost P fn (fun e w' => ∃ out' obs' E', Is (.ret v) obs2 out' obs' ∧ obs.length ≤ obs'.length ∧ outRep E' w' out' e ∧ RealO E' (ofL obs') w' ∧ Ext E0 (mod E0 (ofL obs)) w0 E' w' (ofL obs') ∧ LocKept E0 E') .ret a' w' :=
            ⟨hg.defs, x, p1, .ret v, obs2, _, ⟨rfl, rfl⟩, Nat.le_of_ble_eq_true g3, ⟨x, rfl, (rep_ren r4 v x g7).2 p3⟩, r1, r2, r3⟩
          cases ex with
          | norm => exact this
          | ret => exact this
          | exit id => first | exact (hx2 id rfl).elim | exact (hx1 id rfl).elim
          | pan u => first | exact (hx1 u rfl).elim | exact (hx2 u rfl).elim
        · exact hh.elim
      · exact hh.elim
    · exact hh.elim
  · exact hh.elim

theorem Fn.of' {P : Program} {f : Nat} {fn : Func} {c : Code} (hf : P.funcs[f]? = some fn) (hb : fn.body = some c) {obs : List Ob} {args : List V} {out : Out} {obs2 : List Ob} (o : Orc) {T : Prop}
    (e : AWp P obs.length c (endOk P fn obs.length out obs2) o (startSt fn obs args) = T) (h : T) : Fn P f obs args (Is out obs2) := Fn.of hf hb o (e ▸ h)

end Go.Proofs.Fw
