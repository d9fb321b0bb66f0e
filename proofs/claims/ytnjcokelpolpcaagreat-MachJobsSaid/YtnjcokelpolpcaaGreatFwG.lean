/- Operations that make or change objects. -/
import Derived.Test.YtnjcokelpolpcaaGreatFwF
set_option linter.unusedVariables false
set_option linter.unusedSimpArgs false
set_option linter.unusedSectionVars false
set_option linter.unnecessarySimpa false
namespace Go.Proofs.Fw
open Go Go.RowKit

def Env.put (E : Env) (l : Nat) (lc : Loc) : Env := { E with loc := updf E.loc l (some lc) }

theorem alloc_imm {E : Env} {ob : Nat → Option Ob} {w : World} (h : RealO E ob w) (o : Obj) : ImmKept E.imm E.imm w (w.alloc o) :=
  fun b i hb => ⟨hb, World.cell?_of_block (w := w) (heap_alloc_old w o (h.old b i hb))⟩
theorem put_kept {E : Env} {l : Nat} (hl : E.loc l = none) (lc : Loc) : LocKept E (E.put l lc) := fun l' lc' h => by
  have hne : l' ≠ l := by rintro rfl; rw [hl] at h; simp at h
  exact ⟨lc', by simp only [Env.put]; rw [updf_other _ _ hne]; exact h, rfl, Nat.le_refl _, fun _ => rfl⟩

theorem dom_none {E : Env} {ob : Nat → Option Ob} {w : World} (h : RealO E ob w) {l : Nat} (hl : ob l = none) : E.loc l = none := by
  have := h.dom l; rw [hl] at this; cases he : E.loc l <;> simp [he] at this ⊢

/-- A new block for a new object. -/
theorem fresh_ob {E : Env} {st : St} {a : Act} {w : World} (hg : Good E st a w) {l : Nat} (hl : st.ob l = none) {o : Obj} {lc : Loc} {ob : Ob} (hblk : ∀ b, blkOf lc ob = some b → b = w.heap.size)
    (hok : okOb (E.put l lc) (w.alloc o) lc ob) :
    Good (E.put l lc) { st with ob := updf st.ob l (some ob) } a (w.alloc o) ∧ Ext E (mod E st.ob) w (E.put l lc) (w.alloc o) (updf st.ob l (some ob)) ∧ LocKept E (E.put l lc) := by
  have hE : E.loc l = none := dom_none hg.objs hl
  have hI : ImmKept E.imm (E.put l lc).imm w (w.alloc o) := alloc_imm hg.objs o
  have hK : LocKept E (E.put l lc) := put_kept hE lc
  have hlt : ∀ l' o' lc' b, st.ob l' = some o' → E.loc l' = some lc' → blkOf lc' o' = some b → b < w.heap.size := by
    intro l' o' lc' b h1 h2 h3
    have hk := hg.objs.ok l' o' lc' h1 h2
    cases o' with
    | box T cells =>
      obtain ⟨ys, k1, _⟩ := hk
      simp only [blkOf, Option.some.injEq] at h3; subst h3
      exact (Array.getElem?_eq_some_iff.1 k1).1
    | row e sz rows wr =>
      obtain ⟨_, _, _, xs, k1, _⟩ := hk
      exact (k1.lt b h3).2
    | map ents =>
      obtain ⟨es, clock, k1, _⟩ := hk
      simp only [blkOf, Option.some.injEq] at h3; subst h3
      exact (Array.getElem?_eq_some_iff.1 k1).1
    | gone => simp [blkOf] at h3
  refine ⟨⟨hg.size, hg.defs, fun i => rep_mono hI hK _ _ (hg.slots i), ?_⟩, ?_, hK⟩
  · refine hg.objs.change l hI hK (fun l' h => by simp only [Env.put]; exact updf_other _ _ h) (fun l' h => updf_other _ _ h) (by simp [Env.put, updf_same]) ?_ ?_ ?_ ?_
    · intro l' o' lc' b hne h1 h2 h3
      exact ⟨heap_alloc_old w o (hlt l' o' lc' b h1 h2 h3), fun i h => h⟩
    · intro o' lc' h1 h2
      simp only [Env.put, updf_same, Option.some.injEq] at h1 h2
      subst h1; subst h2
      exact hok
    · intro o' lc' b h1 h2 h3 l' o'' lc'' hne k1 k2 hb
      simp only [Env.put, updf_same, Option.some.injEq] at h1 h2
      subst h1; subst h2
      have := hlt l' o'' lc'' b k1 k2 hb
      have := hblk b h3
      omega
    · intro b i h
      have := hg.objs.old b i h
      simp; omega
  · refine ⟨rfl, rfl, rfl, by simp, hI, fun k hk _ => heap_alloc_old w o hk, ?_, fun b i h => .inl h⟩
    rintro k ⟨l', lc', o', h1, h2, h3⟩
    by_cases hne : l' = l
    · subst hne
      simp only [Env.put, updf_same, Option.some.injEq] at h1 h2
      subst h1; subst h2
      exact .inr (Nat.le_of_eq (hblk k h3).symm)
    · simp only [Env.put] at h1
      rw [updf_other _ _ hne] at h1 h2
      exact .inl ⟨l', lc', o', h1, h2, h3⟩

/-- A variable's cells, written. -/
theorem set_box {E : Env} {st : St} {a : Act} {w : World} (hg : Good E st a w) {l : Nat} {T : Nat} {cs cs' : List V} (ho : st.ob l = some (.box T cs)) {lc : Loc} (h1 : E.loc l = some lc) {ys' : List Value}
    (hr : repL E w cs' ys') (h1c : ∀ y ∈ ys', y.oneCell' = true) :
    Good E { st with ob := updf st.ob l (some (.box T cs')) } a (w.setRow lc.blk ys'.toArray) ∧ Ext E (mod E st.ob) w E (w.setRow lc.blk ys'.toArray) (updf st.ob l (some (.box T cs'))) := by
  obtain ⟨ys, k1, k2, k3, k4⟩ := hg.objs.ok l _ lc ho h1
  have hI : ImmKept E.imm E.imm w (w.setRow lc.blk ys'.toArray) := fun b i hb => ⟨hb, World.cell?_of_block (w := w) (setRow_other w _ _ _ (fun e => k4 i (by rw [← show b = lc.blk from e]; exact hb)))⟩
  have hK := LocKept.refl E
  have hmod : mod E st.ob lc.blk := ⟨l, lc, _, h1, ho, rfl⟩
  refine ⟨⟨hg.size, hg.defs, fun i => rep_mono hI hK _ _ (hg.slots i), ?_⟩, ?_⟩
  · refine hg.objs.change l hI hK (fun _ _ => rfl) (fun l' h => updf_other _ _ h) (by simp [h1, updf_same]) ?_ ?_ ?_ ?_
    · intro l' o' lc' b hne g1 g2 g3
      refine ⟨setRow_other w _ _ _ (fun e => ?_), fun i h => h⟩
      exact hg.objs.disj l' l o' _ lc' lc b hne g1 ho g2 h1 g3 (by rw [show b = lc.blk from e]; rfl)
    · intro o' lc' g1 g2
      rw [h1] at g2
      simp only [updf_same, Option.some.injEq] at g1 g2
      subst g1; subst g2
      exact ⟨ys', setRow_heap w _ _ _ _ _ k1, repL_mono hI hK _ _ hr, h1c, k4⟩
    · intro o' lc' b g1 g2 g3 l' o'' lc'' hne q1 q2 hb
      rw [h1] at g2
      simp only [updf_same, Option.some.injEq] at g1 g2
      subst g1; subst g2
      exact hg.objs.disj l' l o'' _ lc'' lc b hne q1 ho q2 h1 hb (by simpa [blkOf] using g3)
    · intro b i h
      have := hg.objs.old b i h
      simpa using this
  · refine ⟨rfl, rfl, rfl, by simp, hI, fun k hk hm => setRow_other w _ _ _ (fun e => hm (by rw [e]; exact hmod)), ?_, fun b i h => .inl h⟩
    rintro k ⟨l', lc', o', g1, g2, g3⟩
    by_cases hne : l' = l
    · subst hne
      rw [h1] at g1
      simp only [updf_same, Option.some.injEq] at g1 g2
      subst g1; subst g2
      simp only [blkOf, Option.some.injEq] at g3
      exact .inl (by rw [← g3]; exact hmod)
    · rw [updf_other _ _ hne] at g2
      exact .inl ⟨l', lc', o', g1, g2, g3⟩

/-! ### the operations -/
/-- A new variable. -/
def abox (st : St) (d : Option Nat) (l : Nat) (T : Nat) (cs : List V) : St := { st with ob := updf st.ob l (some (.box T cs)) }.set d (.ptr l 0)

theorem box_ok {E : Env} {w : World} {cs : List V} {ys : List Value} {T : TypeId} {l : Nat} (hI : ∀ o, ¬ E.imm w.heap.size o) (hr : repL (E.put l ⟨w.heap.size, undef, 0⟩) (w.alloc (.cells ys.toArray T)) cs ys) (h1 : ∀ y ∈ ys, y.oneCell' = true) :
    okOb (E.put l ⟨w.heap.size, undef, 0⟩) (w.alloc (.cells ys.toArray T)) ⟨w.heap.size, undef, 0⟩ (.box T cs) :=
  ⟨ys, heap_alloc_new w _, hr, h1, hI⟩

theorem Rl.box {E0 : Env} {M0 : Nat → Prop} {w0 : World} {st : St} {a : Act} {w : World} {E : Env} (hg : Good E st a w) (he : Ext E0 M0 w0 E w st.ob) (hk : LocKept E0 E) {l : Nat} (hl : st.ob l = none) {d : Option Nat} (hd : st.fits d = true)
    {cs : List V} {ys : List Value} {T : TypeId} (hr : repL E w cs ys) (h1 : ∀ y ∈ ys, y.oneCell' = true) :
    Rl E0 M0 w0 (abox st d l T cs) (a.put d (.pointer (some ⟨w.heap.size, 0, none⟩))) (w.alloc (.cells ys.toArray T)) := by
  have hE : E.loc l = none := dom_none hg.objs hl
  have hI : ImmKept E.imm (E.put l ⟨w.heap.size, undef, 0⟩).imm w (w.alloc (.cells ys.toArray T)) := alloc_imm hg.objs (.cells ys.toArray T)
  have hK : LocKept E (E.put l ⟨w.heap.size, undef, 0⟩) := put_kept hE _
  obtain ⟨g1, g2, g3⟩ := fresh_ob hg hl (o := .cells ys.toArray T) (lc := ⟨w.heap.size, undef, 0⟩) (ob := .box T cs) (fun b hb => by simpa [blkOf] using hb.symm)
    (box_ok (fun o ho => by have := hg.objs.old _ o ho; omega) (repL_mono hI hK _ _ hr) h1)
  exact Rl.put g1 (he.trans g2) (hk.trans g3) (by cases d <;> exact hd) (by simp only [rep]; exact ⟨_, by simp only [Env.put]; exact updf_same _ _ _, rfl⟩)

theorem all_one_rep {E : Env} {w : World} : ∀ {cs : List V} {ys : List Value}, cs.all one = true → repL E w cs ys → ∀ y ∈ ys, y.oneCell' = true
  | [], _, _, h, y, hy => by simp only [repL] at h; subst h; simp at hy
  | c :: cs, _, hc, h, y, hy => by
    simp only [repL] at h
    obtain ⟨z, zs, rfl, h1, h2⟩ := h
    simp only [List.all_cons, Bool.and_eq_true] at hc
    rcases List.mem_cons.1 hy with rfl | hy
    · exact one_rep hc.1 h1
    · exact all_one_rep hc.2 h2 y hy

def adBox (P : Program) (st : St) (l : Nat) (o : Oper) : Option (VC × St) := match o.op with
  | .box T x => match vcells (ev st x), st.ob l, st.fits o.dst with
    | some cs, none, true => bif cs.all one then some (none, abox st o.dst l T cs) else none
    | _, _, _ => none
  | .alloc T => match tzero P T, st.ob l, st.fits o.dst with
    | some z, none, true => bif z.all (·.oneCell') then some (none, abox st o.dst l T (z.map .lit)) else none
    | _, _, _ => none
  | _ => none

theorem adBox_step {P : Program} {st st' : St} {l : Nat} {o : Oper} {vc : VC} (h : adBox P st l o = some (vc, st')) (hv : holds vc) : Step P o st st' := by
  rintro Q E0 M0 w0 a w ⟨E, hg, he, hk⟩
  unfold adBox at h
  split at h
  · rename_i T x hop
    split at h
    · rename_i cs h1 h2 h3
      cases hall : cs.all one with
      | false => simp [hall] at h
      | true =>
        simp only [hall, cond_true, Option.some.injEq, Prod.mk.injEq] at h
        obtain ⟨_, rfl⟩ := h
        obtain ⟨ys, k1, k2⟩ := vcells_rep h1 (ev_rep hg x)
        have hr : (execOp a.eval o).run P w = .ok (.value (.pointer (some ⟨w.heap.size, 0, none⟩))) (w.alloc (.cells ys.toArray T)) := by
          simp [execOp, hop, Instr.box, newVar, newRow, k1]
        unfold Oper.wp; rw [hr]
        exact ⟨⟨_, rfl⟩, Rl.box hg he hk h2 h3 k2 (all_one_rep hall k2)⟩
    · simp at h
  · rename_i T hop
    split at h
    · rename_i z h1 h2 h3
      cases hall : z.all (·.oneCell') with
      | false => simp [hall] at h
      | true =>
        simp only [hall, cond_true, Option.some.injEq, Prod.mk.injEq] at h
        obtain ⟨_, rfl⟩ := h
        obtain ⟨zv, z1, z2⟩ := zero_run h1 w
        have hr : (execOp a.eval o).run P w = .ok (.value (.pointer (some ⟨w.heap.size, 0, none⟩))) (w.alloc (.cells z.toArray T)) := by
          simp [execOp, hop, Instr.alloc, z1, newVar, newRow, z2]
        unfold Oper.wp; rw [hr]
        exact ⟨⟨_, rfl⟩, Rl.box hg he hk h2 h3 (repL_lit z) (fun y hy => by simpa using List.all_eq_true.1 hall y hy)⟩
    · simp at h
  · simp at h

/-- A store into a variable. -/
def adStore (P : Program) (st : St) (o : Oper) : Option (VC × St) := match o.op with
  | .store T p x => match ev st p, tsize P T, vcells (ev st x) with
    | .ptr l off, some n, some cs => match st.ob l with
      | some (.box U cells) => bif Nat.beq cs.length n && Nat.ble (off + cs.length) cells.length && cs.all one && st.fits o.dst then some (none, { st with ob := updf st.ob l (some (.box U (splice cells off cs))) }.set o.dst .dead) else none
      | _ => none
    | _, _, _ => none
  | _ => none

theorem adStore_step {P : Program} {st st' : St} {o : Oper} {vc : VC} (h : adStore P st o = some (vc, st')) (hv : holds vc) : Step P o st st' := by
  rintro Q E0 M0 w0 a w ⟨E, hg, he, hk⟩
  unfold adStore at h
  split at h
  · rename_i T p x hop
    split at h
    · rename_i l off n cs hp hn hcs
      split at h
      · rename_i U cells ho
        cases hb : Nat.beq cs.length n && Nat.ble (off + cs.length) cells.length && cs.all one && st.fits o.dst with
        | false => simp [hb] at h
        | true =>
          simp only [hb, cond_true, Option.some.injEq, Prod.mk.injEq] at h
          obtain ⟨_, rfl⟩ := h
          simp only [Bool.and_eq_true] at hb
          obtain ⟨⟨⟨b1, b2⟩, b3⟩, b4⟩ := hb
          have e1 : cs.length = n := Nat.eq_of_beq_eq_true b1
          have e2 : off + cs.length ≤ cells.length := Nat.le_of_ble_eq_true b2
          have hpv := ev_rep hg p
          rw [hp] at hpv
          simp only [rep] at hpv
          obtain ⟨lc, g1, g2⟩ := hpv
          obtain ⟨us, k1, k2⟩ := vcells_rep hcs (ev_rep hg x)
          have hone := all_one_rep b3 k2
          obtain ⟨ys, q1, q2, q3, q4⟩ := hg.objs.ok l _ lc ho g1
          have hlen := repL_length k2
          have hlen2 := repL_length q2
          have hst := run_storeCells_at (P := P) lc.blk off U us 0 ys.toArray w q1 (by simp; omega) hone
          have hr : (execOp a.eval o).run P w = .ok .skip (w.setRow lc.blk (splice ys off us).toArray) := by
            have hsz : us.length = n := by omega
            simp only [Nat.add_zero] at hst
            have hst' : (storeCells ⟨lc.blk, off, none⟩ us).run P w = .ok () (w.setRow lc.blk (splice ys off us).toArray) := by simpa [splice] using hst
            simp [execOp, hop, Instr.storeAt, g2, Instr.sureAddr, storeVar, k1, tsize_run hn, hsz, hst']
          unfold Oper.wp; rw [hr]
          have hsp : repL E w (splice cells off cs) (splice ys off us) := by
            unfold splice; rw [hlen]
            exact repL_append (repL_append (repL_take off q2) k2) (repL_drop _ q2)
          have h1c : ∀ y ∈ splice ys off us, y.oneCell' = true := by
            intro y hy
            simp only [splice, List.mem_append] at hy
            rcases hy with (hy | hy) | hy
            · exact q3 y (List.mem_of_mem_take hy)
            · exact hone y hy
            · exact q3 y (List.mem_of_mem_drop hy)
          obtain ⟨r1, r2⟩ := set_box hg ho g1 hsp h1c
          exact ⟨⟨_, rfl⟩, Rl.put r1 (he.trans r2) hk (by cases hd : o.dst <;> simpa [St.fits, hd] using b4) (by simp only [rep])⟩
      · simp at h
    · simp at h
  · simp at h

/-! ### lists' own rows -/
/-- What 'E' says once row l lies otherwise; where it is shared its cells are not to change. -/
def Env.putRow (E : Env) (l : Nat) (lc : Loc) (sh : Bool) (n : Nat) : Env :=
  { loc := updf E.loc l (some lc), imm := fun b o => E.imm b o ∨ (sh = true ∧ lc.row.ownBlock = some b ∧ o < n) }

theorem ownBlock_lt {w : World} {e sz n : Nat} {v : Value} {xs : List Value} (h : w.ownsRow 0 e sz v n xs) {b : Nat} (hb : v.ownBlock = some b) : b < w.heap.size := (h.lt b hb).2

/-- Row l changed, in place or moved; its longer or equal. -/
theorem set_row {E : Env} {st : St} {a : Act} {w w' : World} (hg : Good E st a w) {l e sz : Nat} {rows rows' : List (List V)} {wr : Bool} (ho : st.ob l = some (.row e sz rows wr)) {lc : Loc} (h1 : E.loc l = some lc)
    {v' : Value} {xs' : List Value} (hgb : w.grownBy w' lc.row.ownBlock) (hlen : rows.length ≤ rows'.length) (hsame : rows.length = rows'.length → v' = lc.row)
    (hsz : ∀ r ∈ rows', r.length = sz) (hown : w'.ownsRow 0 e sz v' rows'.length xs') (hx : irepL (E.putRow l ⟨lc.blk, v', rows'.length⟩ (!wr) (rows'.length * sz)).imm w' rows'.flatten xs')
    (hblk : ∀ b, v'.ownBlock = some b → lc.row.ownBlock = some b ∨ w.heap.size ≤ b)
    (himm : wr = false → ∀ b, lc.row.ownBlock = some b → ∀ o, o < rows.length * sz → w'.cell? ⟨b, o, none⟩ = w.cell? ⟨b, o, none⟩) :
    Good (E.putRow l ⟨lc.blk, v', rows'.length⟩ (!wr) (rows'.length * sz)) { st with ob := updf st.ob l (some (.row e sz rows' wr)) } a w' ∧
    Ext E (mod E st.ob) w (E.putRow l ⟨lc.blk, v', rows'.length⟩ (!wr) (rows'.length * sz)) w' (updf st.ob l (some (.row e sz rows' wr))) ∧
    LocKept E (E.putRow l ⟨lc.blk, v', rows'.length⟩ (!wr) (rows'.length * sz)) := by
  obtain ⟨k1, k2, k3, xs, k4, k5, k6, k7⟩ := hg.objs.ok l _ lc ho h1
  have hI : ImmKept E.imm (E.putRow l ⟨lc.blk, v', rows'.length⟩ (!wr) (rows'.length * sz)).imm w w' := by
    intro b o hb
    refine ⟨.inl hb, ?_⟩
    by_cases hbb : lc.row.ownBlock = some b
    · cases hw : wr with
      | true => exact absurd hb (k6 b hbb o (.inl hw))
      | false =>
        by_cases hlt : o < rows.length * sz
        · exact himm hw b hbb o hlt
        · exact absurd hb (k6 b hbb o (.inr (by omega)))
    · exact World.cell?_of_block (w := w) (hgb.block b (hg.objs.old b o hb) (fun h => hbb h.symm))
  have hK : LocKept E (E.putRow l ⟨lc.blk, v', rows'.length⟩ (!wr) (rows'.length * sz)) := by
    intro l' lc' h
    by_cases hne : l' = l
    · subst hne
      rw [h1] at h; simp only [Option.some.injEq] at h; subst h
      refine ⟨⟨lc.blk, v', rows'.length⟩, by simp only [Env.putRow]; exact updf_same _ _ _, rfl, ?_, fun hh => hsame ?_⟩
      · show lc.len ≤ rows'.length; omega
      · have : lc.len = rows'.length := hh
        omega
    · exact ⟨lc', by simp only [Env.putRow]; rw [updf_other _ _ hne]; exact h, rfl, Nat.le_refl _, fun _ => rfl⟩
  have hmod : ∀ b, lc.row.ownBlock = some b → mod E st.ob b := fun b hb => ⟨l, lc, _, h1, ho, hb⟩
  have himmn : ∀ b o, (E.putRow l ⟨lc.blk, v', rows'.length⟩ (!wr) (rows'.length * sz)).imm b o → E.imm b o ∨ (wr = false ∧ v'.ownBlock = some b ∧ o < rows'.length * sz) := by
    intro b o h
    rcases h with h | ⟨h, h2, h3⟩
    · exact .inl h
    · exact .inr ⟨by simpa using h, h2, h3⟩
  have hothb : ∀ l' o' lc' b, l' ≠ l → st.ob l' = some o' → E.loc l' = some lc' → blkOf lc' o' = some b → lc.row.ownBlock ≠ some b ∧ b < w.heap.size := by
    intro l' o' lc' b hne g1 g2 g3
    refine ⟨fun hh => hg.objs.disj l' l o' _ lc' lc b hne g1 ho g2 h1 g3 hh, ?_⟩
    have hk := hg.objs.ok l' o' lc' g1 g2
    cases o' with
    | box T cells =>
      obtain ⟨ys, q1, _⟩ := hk
      simp only [blkOf, Option.some.injEq] at g3; subst g3
      exact (Array.getElem?_eq_some_iff.1 q1).1
    | row e sz rows wr =>
      obtain ⟨_, _, _, xs, q1, _⟩ := hk
      exact (q1.lt b g3).2
    | map ents =>
      obtain ⟨es, clock, q1, _⟩ := hk
      simp only [blkOf, Option.some.injEq] at g3; subst g3
      exact (Array.getElem?_eq_some_iff.1 q1).1
    | gone => simp [blkOf] at g3
  refine ⟨⟨hg.size, hg.defs, fun i => rep_mono hI hK _ _ (hg.slots i), ?_⟩, ?_, hK⟩
  · refine hg.objs.change l hI hK (fun l' h => by simp only [Env.putRow]; exact updf_other _ _ h) (fun l' h => updf_other _ _ h) (by simp [Env.putRow, updf_same]) ?_ ?_ ?_ ?_
    · intro l' o' lc' b hne g1 g2 g3
      obtain ⟨q1, q2⟩ := hothb l' o' lc' b hne g1 g2 g3
      refine ⟨hgb.block b q2 (fun h => q1 h.symm), fun i h => ?_⟩
      rcases himmn b i h with h | ⟨_, h, _⟩
      · exact h
      · rcases hblk b h with h | h
        · exact absurd h q1
        · omega
    · intro o' lc' g1 g2
      simp only [Env.putRow, updf_same, Option.some.injEq] at g1 g2
      subst g1; subst g2
      refine ⟨rfl, k2, hsz, xs', hown, hx, fun b hb o hh hi => ?_, fun hw b hb o hlt => .inr ⟨by simp [hw], hb, hlt⟩⟩
      rcases himmn b o hi with hi | ⟨hw, _, hlt⟩
      · rcases hblk b hb with hb' | hb'
        · refine k6 b hb' o ?_ hi
          rcases hh with hh | hh
          · exact .inl hh
          · exact .inr (Nat.le_trans (Nat.mul_le_mul_right _ hlen) hh)
        · have := hg.objs.old b o hi; omega
      · rcases hh with hh | hh
        · simp [hw] at hh
        · omega
    · intro o' lc' b g1 g2 g3 l' o'' lc'' hne q1 q2 hb
      simp only [Env.putRow, updf_same, Option.some.injEq] at g1 g2
      subst g1; subst g2
      obtain ⟨r1, r2⟩ := hothb l' o'' lc'' b hne q1 q2 hb
      rcases hblk b g3 with h | h
      · exact r1 h
      · omega
    · intro b o h
      rcases himmn b o h with h | ⟨_, h, _⟩
      · exact Nat.lt_of_lt_of_le (hg.objs.old b o h) hgb.size
      · exact ownBlock_lt hown h
  · refine ⟨hgb.os, hgb.tape, hgb.output, hgb.size, hI, fun k hk hm => hgb.block k hk (fun h => hm (hmod k h.symm)), ?_, ?_⟩
    · rintro k ⟨l', lc', o', g1, g2, g3⟩
      by_cases hne : l' = l
      · subst hne
        simp only [Env.putRow, updf_same, Option.some.injEq] at g1 g2
        subst g1; subst g2
        rcases hblk k g3 with h | h
        · exact .inl (hmod k h)
        · exact .inr h
      · simp only [Env.putRow] at g1
        rw [updf_other _ _ hne] at g1 g2
        exact .inl ⟨l', lc', o', g1, g2, g3⟩
    · intro b o h
      rcases himmn b o h with h | ⟨_, h, _⟩
      · exact .inl h
      · rcases hblk b h with h | h
        · exact .inr (.inl (hmod b h))
        · exact .inr (.inr h)

/-! ### append, and lists made on the spot -/
def telem (P : Program) (t : TypeId) : Option Nat := match P.underlying t with
  | some (.slice e) => some e
  | _ => none
theorem telem_eq {P : Program} {t e : Nat} (h : telem P t = some e) : P.underlying t = some (.slice e) := by
  unfold telem at h
  split at h
  · rename_i hu; simp only [Option.some.injEq] at h; subst h; exact hu
  · simp at h
def tbytes (P : Program) (t : TypeId) : Option Nat := (P.info? t).map (·.bytes)

/-- What is appended: rows that can't be changed. -/
def asrc (st : St) (v : V) : Option (VC × Nat × List (List V)) := match v with
  | .sl sz rows => some (none, sz, rows)
  | .sref l n => match st.ob l with
    | some (.row _ sz rows _) => some (some (n = rows.length), sz, rows)
    | _ => none
  | _ => none

theorem asrc_run {E : Env} {st : St} {a : Act} {w : World} (hg : Good E st a w) {v : V} {vc : VC} {sz : Nat} {rows : List (List V)} (h : asrc st v = some (vc, sz, rows)) (hv : holds vc) {x : Value} (hx : rep E w v x) (hne : rows ≠ []) :
    ∃ ad c news, x = .slice (some ad) rows.length c ∧ (∀ r ∈ rows, r.length = sz) ∧ irepL E.imm w rows.flatten news ∧ ∀ j u, news[j]? = some u → w.cell? (ad.add j) = some u := by
  unfold asrc at h
  split at h
  · simp only [Option.some.injEq, Prod.mk.injEq] at h
    obtain ⟨_, rfl, rfl⟩ := h
    simp only [rep, irep] at hx
    obtain ⟨ad, cap, rfl, _, h2⟩ := hx
    rcases h2 with h2 | ⟨b, o, rfl, h2⟩
    · exact absurd h2 hne
    · obtain ⟨ys, k1, k2⟩ := icells_values (irows_flat h2)
      exact ⟨⟨b, o, none⟩, cap, ys, rfl, irows_len h2, k1, fun j u hj => by rw [Addr.add_lit]; exact k2 j u hj⟩
  · rename_i l n
    split at h
    · rename_i e sz' rows' wr' ho
      simp only [Option.some.injEq, Prod.mk.injEq] at h
      obtain ⟨rfl, rfl, rfl⟩ := h
      obtain ⟨lc, h1, h2, rfl, h3⟩ := sref_val hg hx ho hv
      obtain ⟨_, _, q3, xs, q4, q5, _⟩ := h2
      rcases q4.2 with ⟨_, h5⟩ | ⟨g, cap, cur, h5, _⟩
      · exact absurd (List.eq_nil_of_length_eq_zero h5) hne
      · exact ⟨⟨g, 0, none⟩, cap, xs, h5, q3, q5, fun j u hj => q4.cells (g := g) (by rw [h5]; rfl) j u hj⟩
    · simp at h
  · simp at h

/-- Nothing appended. -/
theorem run_append_zero {P : Program} {w : World} {t ty e : Nat} {n : Nat} (ht : P.underlying t = some (.slice e)) (hn : tsize P e = some n) {sz k : Nat} {v : Value} {xs : List Value} (hown : w.ownsRow 0 e sz v k xs) {x : Value} (hx : ∃ b c, x = .slice b 0 c) :
    (Builtin.append_ #[t, t] ty #[v, x]).run P w = .ok v w := by
  obtain ⟨b, c, rfl⟩ := hx
  have hf : (Builtin.firstCells n 0 (.slice b 0 c)).run P w = .ok #[] w := by
    cases b <;> simp [Builtin.firstCells, loadCells, loadCellsFrom]
  rcases hown.2 with ⟨rfl, rfl⟩ | ⟨g, cap, cur, rfl, _, _, hle, _⟩
  · simp [Builtin.append_, run_underlying ht, tsize_run hn, Builtin.lenOf, hf]
  · simp [Builtin.append_, run_underlying ht, tsize_run hn, Builtin.lenOf, hf, hle, storeCells]

def adApp (P : Program) (st : St) (l : Nat) (o : Oper) : Option (VC × St) := match o.op with
  | .call { callee := .builtin .append, args, argTypes } => match args.toList, argTypes.toList with
    | [s, x], [t, t'] => match telem P t, asrc st (ev st x) with
      | some e, some (c1, sz, news) => match tsize P e, tbytes P e, tzero P e with
        | some n, some by_, some z => match ev st s with
          | .sref l0 m => match st.ob l0 with
            | some (.row e0 sz0 rows true) => bif Nat.beq t t' && Nat.beq z.length n && st.fits o.dst && Nat.beq n sz0 && Nat.beq sz sz0 && Nat.beq e e0 && Nat.blt 0 n then
                some (some (holds c1 ∧ m = rows.length ∧ (rows.length + news.length) * by_ ≤ 140737488355328 ∧ rows.length + news.length ≤ 9223372036854775807), { st with ob := updf st.ob l0 (some (.row e0 sz0 (rows ++ news) true)) }.set o.dst (.sref l0 (m + news.length))) else none
            | _ => none
          | .lit (.slice none 0 0) => match st.ob l with
            | none => bif Nat.beq t t' && Nat.beq z.length n && st.fits o.dst && Nat.beq sz n && Nat.blt 0 n then
                some (some (holds c1 ∧ news.length * by_ ≤ 140737488355328 ∧ news.length ≤ 9223372036854775807), { st with ob := updf st.ob l (some (.row e n news true)) }.set o.dst (.sref l news.length)) else none
            | _ => none
          | _ => none
        | _, _, _ => none
      | _, _ => none
    | _, _ => none
  | _ => none

theorem asrc_zero {E : Env} {st : St} {a : Act} {w : World} (hg : Good E st a w) {v : V} {vc : VC} {sz : Nat} (h : asrc st v = some (vc, sz, [])) (hv : holds vc) {x : Value} (hx : rep E w v x) : ∃ b c, x = .slice b 0 c := by
  unfold asrc at h
  split at h
  · simp only [Option.some.injEq, Prod.mk.injEq] at h
    obtain ⟨_, rfl, rfl⟩ := h
    simp only [rep, irep] at hx
    obtain ⟨ad, cap, rfl, _, _⟩ := hx
    exact ⟨ad, cap, rfl⟩
  · rename_i l n
    split at h
    · rename_i e sz' rows' wr' ho
      simp only [Option.some.injEq, Prod.mk.injEq] at h
      obtain ⟨rfl, rfl, rfl⟩ := h
      obtain ⟨lc, h1, h2, rfl, h3⟩ := sref_val hg hx ho hv
      obtain ⟨_, _, q3, xs, q4, q5, _⟩ := h2
      rcases q4.2 with ⟨h5, _⟩ | ⟨g, cap, cur, h5, _⟩
      · exact ⟨none, 0, h5⟩
      · exact ⟨_, cap, h5⟩
    · simp at h
  · simp at h

/-- Cells that may not change don't lie in a row of one's own. -/
theorem own_imm {E : Env} {st : St} {a : Act} {w w' : World} (hg : Good E st a w) {row : Option Nat} (hrow : ∀ b, row = some b → ∀ o, ¬ E.imm b o) (hgb : w.grownBy w' row) : ImmKept E.imm E.imm w w' :=
  fun b o hb => ⟨hb, World.cell?_of_block (w := w) (hgb.block b (hg.objs.old b o hb) (fun h => hrow b h.symm o hb))⟩

theorem App.own {P : Program} {E0 : Env} {M0 : Nat → Prop} {w0 : World} {st : St} {a : Act} {w : World} {E : Env} (hg : Good E st a w) (he : Ext E0 M0 w0 E w st.ob) (hk : LocKept E0 E) {s x : Operand} {t e n by_ : Nat} {z : List Value}
    (ht : P.underlying t = some (.slice e)) (hn : tsize P e = some n) (hby : tbytes P e = some by_) (hz : tzero P e = some z) (hzl : z.length = n) {c1 : VC} {news : List (List V)} (hsrc : asrc st (ev st x) = some (c1, n, news)) (hc1 : holds c1)
    {l0 : Nat} {rows : List (List V)} {lc : Loc} (h1 : E.loc l0 = some lc) (h3 : a.eval s = lc.row) (ho : st.ob l0 = some (.row e n rows true)) (h0 : 0 < n) (hb1 : (rows.length + news.length) * by_ ≤ 140737488355328) (hb2 : rows.length + news.length ≤ 9223372036854775807)
    {d : Option Nat} (hd : st.fits d = true) (ty : Nat) :
    ∃ v w', (Builtin.append_ #[t, t] ty #[a.eval s, a.eval x]).run P w = .ok v w' ∧
      Rl E0 M0 w0 ({ st with ob := updf st.ob l0 (some (.row e n (rows ++ news) true)) }.set d (.sref l0 (rows.length + news.length))) (a.put d v) w' := by
  have h2 := hg.objs.ok l0 _ lc ho h1
  obtain ⟨q1, q2, q3, xs, q4, q5, q6, q7⟩ := h2
  have hxv := ev_rep hg x
  have hrow : ∀ b, lc.row.ownBlock = some b → ∀ o, ¬ E.imm b o := fun b hb o => q6 b hb o (.inl rfl)
  have fin : ∀ (v' : Value) (w' : World) (nvals : List Value), w.grownBy w' lc.row.ownBlock → (rows.length = (rows ++ news).length → v' = lc.row) → w'.ownsRow 0 e n v' (rows ++ news).length (xs ++ nvals) →
      irepL E.imm w news.flatten nvals → (∀ r ∈ news, r.length = n) → (∀ b, v'.ownBlock = some b → lc.row.ownBlock = some b ∨ w.heap.size ≤ b) →
      Rl E0 M0 w0 ({ st with ob := updf st.ob l0 (some (.row e n (rows ++ news) true)) }.set d (.sref l0 (rows.length + news.length))) (a.put d v') w' := by
    intro v' w' nvals hgb hsame hown hnv hnl hblk
    have hI := own_imm hg hrow hgb
    have hI2 : ImmKept E.imm (E.putRow l0 ⟨lc.blk, v', (rows ++ news).length⟩ (!true) ((rows ++ news).length * n)).imm w w' := fun b o hb => ⟨.inl hb, (hI b o hb).2⟩
    obtain ⟨r1, r2, r3⟩ := set_row hg ho h1 (v' := v') (xs' := xs ++ nvals) (rows' := rows ++ news) hgb (by simp) hsame (by intro r hr; rcases List.mem_append.1 hr with hr | hr; exact q3 r hr; exact hnl r hr) hown
      (by rw [List.flatten_append]; exact irepL_append (irepL_mono hI2 _ _ q5) (irepL_mono hI2 _ _ hnv)) hblk (by intro h; simp at h)
    refine Rl.put r1 (he.trans r2) (hk.trans r3) (by cases d <;> exact hd) ?_
    simp only [rep]
    refine ⟨?_, ⟨lc.blk, v', (rows ++ news).length⟩, by simp only [Env.putRow]; exact updf_same _ _ _, by simp, fun _ => rfl⟩
    rcases hown.2 with ⟨hh, _⟩ | ⟨g, cap, cur, hh, _⟩ <;> rw [hh] <;> rfl
  by_cases hm : news = []
  · subst hm
    have hr := run_append_zero (P := P) (ty := ty) ht hn q4 (asrc_zero hg hsrc hc1 hxv)
    refine ⟨lc.row, w, by rw [h3]; exact hr, ?_⟩
    exact fin lc.row w [] ⟨rfl, rfl, rfl, Nat.le_refl _, fun _ _ _ => rfl⟩ (fun _ => rfl) (by simpa using q4) (by simp [irepL]) (by simp) (fun b hb => .inl hb)
  · obtain ⟨ad, c, nvals, g1, g2, g3, g4⟩ := asrc_run hg hsrc hc1 hxv hm
    have hlen := irepL_length g3
    rw [flatten_len g2] at hlen
    unfold tsize at hn; unfold tbytes at hby; unfold tzero at hz
    cases hi : P.info? e with
    | none => simp [hi] at hn
    | some i =>
      simp only [hi, Option.map_some, Option.some.injEq, Option.bind_some, Option.map_eq_some_iff] at hn hby hz
      obtain ⟨zv, z1, z2⟩ := hz
      have hzs : zv.cells.size = n := by
        have : zv.cells.size = z.length := by rw [← z2]; simp
        omega
      have h63 : rows.length + news.length ≤ maxLen := by unfold maxLen; omega
      obtain ⟨v', w', p1, p2, p3, p4⟩ := run_append_own (P := P) w 0 t ty e i zv n by_ ht hi z1 hn hby hzs h0 lc.row rows.length xs q4 ad news.length c nvals hlen.symm g4 (irepL_one g3) h63 hb1 (Nat.zero_le _)
      have hblk : ∀ b, v'.ownBlock = some b → lc.row.ownBlock = some b ∨ w.heap.size ≤ b := by
        intro b hb
        subst hn; subst hby
        have hmpos : 0 < news.length := List.length_pos_iff.2 hm
        rcases q4.2 with ⟨hv, hz0⟩ | ⟨g, cap, cur, hv, _, hg', hnc, hcm, hcs, htk⟩
        · have hr := run_append_nil (P := P) w t ty e i zv ht hi z1 ad news.length c nvals hlen.symm g4 hmpos (by omega) (by rw [hz0] at hb1; simp at hb1; omega)
          rw [hv, hr] at p1
          simp only [Result.ok.injEq] at p1
          rw [← p1.1] at hb
          simp only [Value.ownBlock, Option.some.injEq] at hb
          exact .inr (Nat.le_of_eq hb)
        · by_cases hroom : rows.length + news.length ≤ cap
          · have hr := run_append_room (P := P) w t ty e i ht hi g rows.length cap cur hg' ad news.length c nvals hlen.symm g4 (irepL_one g3) hroom (by rw [← hlen, hcs, ← Nat.add_mul]; exact Nat.mul_le_mul_right _ hroom)
            rw [hv, hr] at p1
            simp only [Result.ok.injEq] at p1
            rw [← p1.1] at hb
            left; rw [hv]; exact hb
          · have hr := run_append_grow (P := P) w t ty e i zv ht hi z1 ⟨g, 0, none⟩ rows.length cap xs (by have := q4.1; omega) (q4.cells (g := g) (by rw [hv]; rfl)) ad news.length c nvals hlen.symm g4 (by omega) (by omega) (growslice_fits (by omega) hb1)
            rw [hv, hr] at p1
            simp only [Result.ok.injEq] at p1
            rw [← p1.1] at hb
            simp only [Value.ownBlock, Option.some.injEq] at hb
            exact .inr (Nat.le_of_eq hb)
      refine ⟨v', w', by rw [h3, g1]; exact p1, ?_⟩
      refine fin v' w' nvals p3 (fun hh => ?_) (by simpa using p2) g3 g2 hblk
      exfalso; simp at hh; exact hm hh

/-- A list that is nil, seen as a row of one's own. -/
theorem adopt_nil {E : Env} {st : St} {a : Act} {w : World} (hg : Good E st a w) {l : Nat} (hl : st.ob l = none) {e n : Nat} (h0 : 0 < n) (wr : Bool) :
    Good (E.put l ⟨0, .slice none 0 0, 0⟩) { st with ob := updf st.ob l (some (.row e n [] wr)) } a w ∧ Ext E (mod E st.ob) w (E.put l ⟨0, .slice none 0 0, 0⟩) w (updf st.ob l (some (.row e n [] wr))) ∧ LocKept E (E.put l ⟨0, .slice none 0 0, 0⟩) := by
  have hE : E.loc l = none := dom_none hg.objs hl
  have hI : ImmKept E.imm (E.put l ⟨0, .slice none 0 0, 0⟩).imm w w := fun b o h => ⟨h, rfl⟩
  have hK : LocKept E (E.put l ⟨0, .slice none 0 0, 0⟩) := put_kept hE _
  refine ⟨⟨hg.size, hg.defs, fun i => rep_mono hI hK _ _ (hg.slots i), ?_⟩, ?_, hK⟩
  · refine hg.objs.change l hI hK (fun l' h => by simp only [Env.put]; exact updf_other _ _ h) (fun l' h => updf_other _ _ h) (by simp [Env.put, updf_same]) ?_ ?_ ?_ ?_
    · intro l' o' lc' b hne g1 g2 g3; exact ⟨rfl, fun i h => h⟩
    · intro o' lc' g1 g2
      simp only [Env.put, updf_same, Option.some.injEq] at g1 g2
      subst g1; subst g2
      exact ⟨rfl, h0, by simp, [], World.ownsRow_nil w 0 e n, by simp [irepL], by simp [Value.ownBlock], by simp [Value.ownBlock]⟩
    · intro o' lc' b g1 g2 g3
      simp only [Env.put, updf_same, Option.some.injEq] at g1 g2
      subst g1; subst g2
      simp [blkOf, Value.ownBlock] at g3
    · exact hg.objs.old
  · refine ⟨rfl, rfl, rfl, Nat.le_refl _, hI, fun _ _ _ => rfl, ?_, fun b o h => .inl h⟩
    rintro k ⟨l', lc', o', g1, g2, g3⟩
    by_cases hne : l' = l
    · subst hne
      simp only [Env.put, updf_same, Option.some.injEq] at g1 g2
      subst g1; subst g2
      simp [blkOf, Value.ownBlock] at g3
    · simp only [Env.put] at g1
      rw [updf_other _ _ hne] at g1 g2
      exact .inl ⟨l', lc', o', g1, g2, g3⟩

theorem asrc_put {st : St} {v : V} {l : Nat} (hl : st.ob l = none) (ob : Ob) {r : VC × Nat × List (List V)} (h : asrc st v = some r) : asrc { st with ob := updf st.ob l (some ob) } v = some r := by
  unfold asrc at h ⊢
  split at h
  · exact h
  · rename_i l' n
    split at h
    · rename_i e sz rows wr' ho
      have hne : l' ≠ l := by rintro rfl; rw [hl] at ho; simp at ho
      simp only
      rw [updf_other _ _ hne, ho]
      exact h
    · simp at h
  · simp at h

theorem updf_updf {α : Type} (f : Nat → α) (i : Nat) (v u : α) : updf (updf f i v) i u = updf f i u := by
  funext j
  simp only [updf]
  cases Nat.beq j i <;> rfl

theorem adApp_step {P : Program} {st st' : St} {l : Nat} {o : Oper} {vc : VC} (h : adApp P st l o = some (vc, st')) (hv : holds vc) : Step P o st st' := by
  rintro Q E0 M0 w0 a w ⟨E, hg, he, hk⟩
  unfold adApp at h
  split at h
  · rename_i args argTypes hop
    split at h
    · rename_i s x t t' ha hat
      have e1 : args = #[s, x] := by rw [← Array.toArray_toList (xs := args), ha]
      have e2 : argTypes = #[t, t'] := by rw [← Array.toArray_toList (xs := argTypes), hat]
      subst e1; subst e2
      split at h
      · rename_i e c1 sz news hte hsrc
        split at h
        · rename_i n by_ z hn hby hz
          split at h
          · rename_i l0 m hs
            split at h
            · rename_i e0 sz0 rows ho
              cases hb : Nat.beq t t' && Nat.beq z.length n && st.fits o.dst && Nat.beq n sz0 && Nat.beq sz sz0 && Nat.beq e e0 && Nat.blt 0 n with
              | false => simp [hb] at h
              | true =>
                simp only [hb, cond_true, Option.some.injEq, Prod.mk.injEq] at h
                obtain ⟨rfl, rfl⟩ := h
                obtain ⟨hc1, rfl, hb1, hb2⟩ := hv
                simp only [Bool.and_eq_true] at hb
                obtain ⟨⟨⟨⟨⟨⟨b1, b2⟩, b3⟩, b4⟩, b5⟩, b6⟩, b7⟩ := hb
                have e4 := Nat.eq_of_beq_eq_true b4
                have e5 := Nat.eq_of_beq_eq_true b5
                have e6 := Nat.eq_of_beq_eq_true b6
                subst e4; subst e5; subst e6
                have h0 : 0 < sz := by have := b7; simp [Nat.blt] at this; omega
                have ett := Nat.eq_of_beq_eq_true b1
                subst ett
                have hsv := ev_rep hg s
                rw [hs] at hsv
                obtain ⟨lc, h1, h2, h3, h4⟩ := sref_val hg hsv ho rfl
                obtain ⟨v, w', p1, p2⟩ := App.own (P := P) hg he hk (telem_eq hte) hn hby hz (Nat.eq_of_beq_eq_true b2) hsrc hc1 h1 h3 ho h0 hb1 hb2 b3 o.type
                have hr : (execOp a.eval o).run P w = .ok (.value v) w' := by
                  simp [execOp, hop, resolve, invoke, builtin, p1]
                unfold Oper.wp; rw [hr]; exact ⟨⟨_, rfl⟩, p2⟩
            · simp at h
          · rename_i hs
            split at h
            · rename_i hl
              cases hb : Nat.beq t t' && Nat.beq z.length n && st.fits o.dst && Nat.beq sz n && Nat.blt 0 n with
              | false => simp [hb] at h
              | true =>
                simp only [hb, cond_true, Option.some.injEq, Prod.mk.injEq] at h
                obtain ⟨rfl, rfl⟩ := h
                obtain ⟨hc1, hb1, hb2⟩ := hv
                simp only [Bool.and_eq_true] at hb
                obtain ⟨⟨⟨⟨b1, b2⟩, b3⟩, b4⟩, b5⟩ := hb
                have e4 := Nat.eq_of_beq_eq_true b4
                subst e4
                have h0 : 0 < sz := by have := b5; simp [Nat.blt] at this; omega
                have ett := Nat.eq_of_beq_eq_true b1
                subst ett
                have hsv := ev_rep hg s
                rw [hs] at hsv
                simp only [rep] at hsv
                obtain ⟨g1, g2, g3⟩ := adopt_nil hg hl (e := e) h0 true
                obtain ⟨v, w', p1, p2⟩ := App.own (P := P) (x := x) g1 (he.trans g2) (hk.trans g3) (telem_eq hte) hn hby hz (Nat.eq_of_beq_eq_true b2)
                  (by
                    have : ev { st with ob := updf st.ob l (some (.row e sz [] true)) } x = ev st x := by cases x <;> rfl
                    rw [this]; exact asrc_put hl _ hsrc) hc1
                  (l0 := l) (rows := []) (lc := ⟨0, .slice none 0 0, 0⟩) (by simp only [Env.put]; exact updf_same _ _ _) hsv (by simp only; exact updf_same _ _ _) h0 (by simpa using hb1) (by simpa using hb2) (d := o.dst) (by cases hd : o.dst <;> simpa [St.fits, hd] using b3) o.type
                have hr : (execOp a.eval o).run P w = .ok (.value v) w' := by
                  simp [execOp, hop, resolve, invoke, builtin, p1]
                unfold Oper.wp; rw [hr]
                simp only [List.nil_append, List.length_nil, Nat.zero_add, updf_updf] at p2
                exact ⟨⟨_, rfl⟩, p2⟩
            · simp at h
          · simp at h
        · simp at h
      · simp at h
    · simp at h
  · simp at h

end Go.Proofs.Fw
