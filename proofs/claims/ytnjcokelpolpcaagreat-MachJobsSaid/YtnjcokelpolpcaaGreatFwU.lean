/- Regions of their own kind: a list held against nil; a row's end cleared; a row under a new name. -/
import Derived.Test.YtnjcokelpolpcaaGreatFwO
set_option linter.unusedVariables false
set_option linter.unusedSimpArgs false
set_option linter.unusedSectionVars false
set_option linter.unnecessarySimpa false
namespace Go.Proofs.Fw
open Go Go.RowKit

theorem wanted_plain {o : Oper} {y : Nat → Option Bool} (h : o.guard = none) : Region.wanted o y = true := by simp [Region.wanted, h]

/-! ### a list held against nil -/
structure NilQ where
  d1 : Nat
  v : V
  d2 : Option Nat
  rows : List (List V)
def nilReg (P : Program) (st : St) (ops : Array Oper) : Option NilQ := match ops.toList with
  | [o1, o2] => match o1.op, o1.guard, o2.op, o2.guard, o1.dst with
    | .move x, none, .binOp .eql t (.tmp d) (.const (.slice none 0 0)) _, none, some d1 => match ev st x, telem P t with
      | .sl sz rows, some _ => bif Nat.beq d d1 && st.fits o1.dst && st.fits o2.dst then some ⟨d1, .sl sz rows, o2.dst, rows⟩ else none
      | _, _ => none
    | _, _, _, _, _ => none
  | _ => none
theorem nilReg_run {P : Program} {st : St} {ops : Array Oper} {q : NilQ} (h : nilReg P st ops = some q) {Q : Exit → Act → World → Prop} {E0 : Env} {M0 : Nat → Prop} {w0 : World} {a : Act} {w : World} (hr : Rl E0 M0 w0 st a w)
    (h1 : q.rows = [] → ∀ a', Rl E0 M0 w0 ((st.set (some q.d1) q.v).set q.d2 (.lit (.bool true))) a' w → Q .normal a' w)
    (h2 : ∀ a', Rl E0 M0 w0 ((st.set (some q.d1) q.v).set q.d2 (.lit (.bool false))) a' w → Q .normal a' w) : wpList P ops Q ops.toList a w := by
  obtain ⟨E, hg, he, hk⟩ := hr
  unfold nilReg at h
  split at h
  · rename_i o1 o2 hops
    split at h
    · rename_i x t d u d1 e1 e2 e3 e4 e5
      split at h
      · rename_i sz rows e hx hte
        cases hb : Nat.beq d d1 && st.fits o1.dst && st.fits o2.dst with
        | false => simp [hb] at h
        | true =>
          simp only [hb, cond_true, Option.some.injEq] at h; subst h
          simp only [Bool.and_eq_true] at hb
          obtain ⟨⟨b1, b2⟩, b3⟩ := hb
          have e := Nat.eq_of_beq_eq_true b1; subst e
          have hxv := ev_rep hg x
          rw [hx] at hxv
          have hxv0 := hxv
          simp only [rep, irep] at hxv
          obtain ⟨ad, cap, hxe, hcap, hrows⟩ := hxv
          have hd : d < st.n := by rw [e5] at b2; simpa [St.fits] using b2
          rw [hops]
          simp only [wpList, wanted_plain e2, wanted_plain e4, if_true]
          left
          unfold Oper.wp
          have r1 : (execOp a.eval o1).run P w = .ok (.value (a.eval x)) w := by simp [execOp, e1]
          rw [r1]
          show _ ∨ _
          left
          rw [e5]
          have hev : (a.put (some d) (a.eval x)).eval (.tmp d) = a.eval x := by
            simp only [Act.put, Act.eval]
            rw [Array.getD_eq_getD_getElem?, Array.getElem?_setIfInBounds_self_of_lt (by rw [hg.size]; exact hd)]; rfl
          have r2 : (execOp (a.put (some d) (a.eval x)).eval o2).run P w = .ok (.value (.bool ad.isNone)) w := by
            have hc : (a.put (some d) (a.eval x)).eval (.const (.slice none 0 0)) = .slice none 0 0 := rfl
            simp only [execOp, e3, hev, hc]
            rw [hxe]
            have : ∀ p r, (eqGuard .eql t p r (.slice ad rows.length cap) (.slice none 0 0)).run P w = .ok () w := by
              intro p r; unfold eqGuard; simp
            have h4 := Go.run_eql_slice_nil (P := P) w t e ad rows.length cap (telem_eq hte)
            simp [this, h4]
          rw [r2]
          show Q .normal _ w
          have g1 := hg.put (d := some d) (by simpa [St.fits] using hd) hxv0
          have g2 : ∀ b : Bool, Rl E0 M0 w0 ((st.set (some d) (.sl sz rows)).set o2.dst (.lit (.bool b))) ((a.put (some d) (a.eval x)).put o2.dst (.bool b)) w :=
            fun b => Rl.put g1 he hk (by cases hd2 : o2.dst <;> simpa [St.fits, St.set, hd2] using b3) (by simp [rep])
          cases ad with
          | none =>
            refine h1 ?_ _ (g2 true)
            rcases hrows with h | ⟨b, o, h, _⟩
            · exact h
            · simp at h
          | some p => exact h2 _ (g2 false)
      · simp at h
    · simp at h
  · simp at h

/-! ### a row's end cleared -/
structure ClrQ where
  l : Nat
  rows : List (List V)
  n : Nat
  i : Int
  e : Nat
  sz : Nat
  z : List Value
  d1 : Nat
  d2 : Nat
  d3 : Nat
  k : V
  dst : Option Nat
def clrReg (P : Program) (st : St) (ops : Array Oper) : Option ClrQ := match ops.toList with
  | [o1, o2, o3, o4] => match o1.guard, o2.guard, o3.guard, o4.guard, o1.dst, o2.dst, o3.dst with
    | none, none, none, none, some d1, some d2, some d3 => match o1.op, o2.op, o3.op, o4.op with
      | .move x, .move y, .slice t (.tmp u1) (some (.tmp u2)) none none, .call { callee := .builtin .clear, args := as, argTypes := ts } => match as.toList, ts.toList, ev st x, ev (st.set (some d1) (ev st x)) y, telem P t with
        | [.tmp u3], t' :: _, .sref l n, .lit (.int k i), some e => match st.ob l, tsize P e, tzero P e with
          | some (.row e0 sz rows true), some s, some z => bif Nat.beq u1 d1 && Nat.beq u2 d2 && Nat.beq u3 d3 && Nat.beq t t' && Nat.beq s sz && Nat.beq z.length sz && z.all (·.oneCell') && st.fits (some d1) && st.fits (some d2) && st.fits (some d3) && st.fits o4.dst && !(Nat.beq d1 d2) then
              some ⟨l, rows, n, i, e0, sz, z, d1, d2, d3, .lit (.int k i), o4.dst⟩ else none
          | _, _, _ => none
        | _, _, _, _, _ => none
      | _, _, _, _ => none
    | _, _, _, _, _, _, _ => none
  | _ => none
def ClrQ.rows' (q : ClrQ) : List (List V) := q.rows.take q.i.toNat ++ List.replicate (q.rows.length - q.i.toNat) (q.z.map V.lit)
def ClrQ.st (q : ClrQ) (st : St) : St :=
  ((({ st with ob := updf st.ob q.l (some (.row q.e q.sz q.rows' true)) }.set (some q.d1) (.sref q.l q.n)).set (some q.d2) q.k).set (some q.d3) .dead).set q.dst .dead
theorem zeroCells_reps (z : List Value) (n : Nat) (h : 0 < z.length) : (Builtin.zeroCells z.toArray n).toList = (List.replicate n z).flatten := by
  apply List.ext_getElem?
  intro i
  have key : ∀ (n i : Nat), (List.replicate n z).flatten[i]? = if i < n * z.length then z[i % z.length]? else none := by
    intro n
    induction n with
    | zero => intro i; simp
    | succ n ih =>
      intro i
      simp only [List.replicate_succ, List.flatten_cons]
      rw [List.getElem?_append]
      by_cases h1 : i < z.length
      · rw [if_pos h1, if_pos (Nat.lt_of_lt_of_le h1 (Nat.le_mul_of_pos_left _ (Nat.succ_pos n))), Nat.mod_eq_of_lt h1]
      · rw [if_neg h1, ih]
        have e1 : (i - z.length) % z.length = i % z.length := by rw [← Nat.mod_eq_sub_mod (by omega)]
        rw [e1]
        have e2 : (n + 1) * z.length = n * z.length + z.length := by rw [Nat.add_mul, Nat.one_mul]
        by_cases h2 : i - z.length < n * z.length
        · rw [if_pos h2, if_pos (by omega)]
        · rw [if_neg h2, if_neg (by omega)]
  rw [key]
  simp only [Builtin.zeroCells, List.size_toArray]
  by_cases h1 : i < n * z.length
  · rw [if_pos h1]
    have h3 : i % z.length < z.length := Nat.mod_lt _ h
    simp [h1, h3]
  · rw [if_neg h1]; simp [h1]
theorem clrReg_run {P : Program} {st : St} {ops : Array Oper} {q : ClrQ} (h : clrReg P st ops = some q) (hn : q.n = q.rows.length) (hi0 : 0 ≤ q.i) (hi1 : q.i ≤ (q.rows.length : Int)) {Q : Exit → Act → World → Prop} {E0 : Env} {M0 : Nat → Prop} {w0 : World} {a : Act} {w : World} (hr : Rl E0 M0 w0 st a w)
    (hq : ∀ a' w', Rl E0 M0 w0 (q.st st) a' w' → Q .normal a' w') : wpList P ops Q ops.toList a w := by
  obtain ⟨E, hg, he, hk⟩ := hr
  unfold clrReg at h
  split at h
  · rename_i o1 o2 o3 o4 hops
    split at h
    · rename_i d1 d2 d3 g1 g2 g3 g4 p1 p2 p3
      split at h
      · rename_i x y t u1 u2 as ts f1 f2 f3 f4
        split at h
        · rename_i u3 t' tr l n k i e ha hts hx hy hte
          split at h
          · rename_i e0 sz rows s z ho hsz hz
            generalize hbb : (_ && _ && _ && _ && _ && _ && _ && _ && _ && _ && _ && _) = bb at h
            cases bb with
            | false => simp at h
            | true =>
              simp only [cond_true, Option.some.injEq] at h; subst h
              simp only [Bool.and_eq_true, Bool.not_eq_true'] at hbb
              obtain ⟨⟨⟨⟨⟨⟨⟨⟨⟨⟨⟨b1, b2⟩, b3⟩, b4⟩, b5⟩, b6⟩, b7⟩, b8⟩, b9⟩, b10⟩, b11⟩, b12⟩ := hbb
              have e1 := Nat.eq_of_beq_eq_true b1; have e2 := Nat.eq_of_beq_eq_true b2; have e3 := Nat.eq_of_beq_eq_true b3; have e4 := Nat.eq_of_beq_eq_true b4; have e5 := Nat.eq_of_beq_eq_true b5; have e6 := Nat.eq_of_beq_eq_true b6
              subst e1; subst e2; subst e3; subst e4; subst e5
              have hne : u1 ≠ u2 := by rintro rfl; simp at b12
              simp only at hn hi0 hi1
              have hxv := ev_rep hg x
              rw [hx] at hxv
              have hxv0 := hxv
              obtain ⟨lc, c1, c2⟩ := sref_row hg ho hn hxv
              obtain ⟨q1, q2, q3, xs, q4, q5, q6, q7⟩ := hg.objs.ok l _ lc ho c1
              have hd1 : u1 < st.n := by simpa [St.fits] using b8
              have r1 : (execOp a.eval o1).run P w = .ok (.value (a.eval x)) w := by simp [execOp, f1]
              have hg1 := hg.put (d := some u1) b8 hxv0
              rw [hx] at hy
              have hyv := ev_rep hg1 y
              rw [hy] at hyv
              have hg2 := hg1.put (d := some u2) (by simpa [St.fits, St.set] using b9) hyv
              have r2 : (execOp (a.put (some u1) (a.eval x)).eval o2).run P w = .ok (.value ((a.put (some u1) (a.eval x)).eval y)) w := by simp [execOp, f2]
              simp only [rep] at hyv
              have k1 : (((a.put (some u1) (a.eval x)).put (some u2) ((a.put (some u1) (a.eval x)).eval y)).eval (.tmp u1)) = lc.row := by
                have h1 := hg2.slots u1
                have e1 : ((st.set (some u1) (.sref l n)).set (some u2) (.lit (.int k i))).s u1 = .sref l n := by
                  simp only [St.set]; rw [updf_other _ _ hne, updf_same]
                rw [e1] at h1
                obtain ⟨lc', j1, j2⟩ := sref_row hg2 (l := l) (by simpa [St.set] using ho) hn h1
                rw [c1] at j1; simp only [Option.some.injEq] at j1; subst j1; exact j2
              have k2 : (((a.put (some u1) (a.eval x)).put (some u2) ((a.put (some u1) (a.eval x)).eval y)).eval (.tmp u2)) = .int k i := by
                have h1 := hg2.slots u2
                have e1 : ((st.set (some u1) (.sref l n)).set (some u2) (.lit (.int k i))).s u2 = .lit (.int k i) := by
                  simp only [St.set]; rw [updf_same]
                rw [e1] at h1; simp only [rep] at h1; exact h1
              generalize hA2 : (a.put (some u1) (a.eval x)).put (some u2) ((a.put (some u1) (a.eval x)).eval y) = a2 at k1 k2 hg2
              have hu := telem_eq hte
              have hb0 : ∀ m : Nat, i.toNat ≤ m → (Instr.sliceBound (.int k i) m .sliceB).run P w = .ok i.toNat w := by
                intro m hm; simp [Instr.sliceBound, asIntOf, hi0, show i ≤ (m : Int) by omega]
              -- the end's own place
              have hzl : z.length = s := e6
              have hone : ∀ v ∈ z, v.oneCell' = true := fun v hv => List.all_eq_true.1 b7 v hv
              have hzv : ∃ zv : Value, (zeroValue e).run P w = .ok zv w ∧ zv.cells = z.toArray := by
                unfold tzero at hz
                cases hi : P.info? e with
                | none => simp [hi] at hz
                | some inf =>
                  simp only [hi, Option.bind_some, Option.map_eq_some_iff] at hz
                  obtain ⟨zv, z1, z2⟩ := hz
                  exact ⟨zv, by simp [zeroValue, typeInfo, hi, z1], by rw [← z2]⟩
              obtain ⟨zv, hz1, hz2⟩ := hzv
              have hlen' : (rows.take i.toNat ++ List.replicate (rows.length - i.toNat) (z.map V.lit)).length = rows.length := by
                simp only [List.length_append, List.length_take, List.length_replicate]; omega
              have hrsz : ∀ r ∈ rows.take i.toNat ++ List.replicate (rows.length - i.toNat) (z.map V.lit), r.length = s := by
                intro r hr
                rcases List.mem_append.1 hr with hr | hr
                · exact q3 r (List.mem_of_mem_take hr)
                · rw [List.eq_of_mem_replicate hr, List.length_map, hzl]
              have hflat : ∀ m, (List.replicate m (z.map V.lit)).flatten = (List.replicate m z).flatten.map V.lit := by
                intro m
                induction m with
                | zero => rfl
                | succ m ih => simp only [List.replicate_succ, List.flatten_cons, List.map_append, ih]
              -- behind the four: what is said of the memory
              have fin : ∀ (x3 x4 : Value) (w' : World) (xs' : List Value), w.grownBy w' lc.row.ownBlock → w'.ownsRow 0 e0 s lc.row rows.length xs' →
                  irepL (E.putRow l ⟨lc.blk, lc.row, rows.length⟩ false (rows.length * s)).imm w' (rows.take i.toNat ++ List.replicate (rows.length - i.toNat) (z.map V.lit)).flatten xs' →
                  Rl E0 M0 w0 (ClrQ.st ⟨l, rows, n, i, e0, s, z, u1, u2, u3, .lit (.int k i), o4.dst⟩ st) ((a2.put (some u3) x3).put o4.dst x4) w' := by
                intro x3 x4 w' xs' hgb hown hirr
                have hg3 := hg2.put (d := some u3) (v := .dead) (x := x3) (by simpa [St.fits, St.set] using b10) (by simp only [rep])
                obtain ⟨m1, m2, m3⟩ := set_row hg3 (l := l) (e := e0) (sz := s) (wr := true) (rows := rows) (rows' := rows.take i.toNat ++ List.replicate (rows.length - i.toNat) (z.map V.lit)) (by simpa [St.set] using ho) c1 (v' := lc.row) (xs' := xs') hgb (by rw [hlen']; exact Nat.le_refl _) (fun _ => rfl) hrsz (by rw [hlen']; exact hown) (by rw [hlen']; exact hirr) (fun b hb => .inl hb) (by simp)
                exact Rl.put m1 (by exact he.trans m2) (hk.trans m3) (by cases hd : o4.dst <;> simpa [St.fits, St.set, hd] using b11) (by simp only [rep])
              rw [hops]
              simp only [wpList, wanted_plain g1, wanted_plain g2, wanted_plain g3, wanted_plain g4, if_true]
              left
              unfold Oper.wp
              rw [r1]
              show _ ∨ _
              left
              rw [p1, r2]
              show _ ∨ _
              left
              rw [p2, hA2]
              have hev : ∀ x3, (a2.put (some u3) x3).eval (.tmp u3) = x3 := by
                intro x3
                simp only [Act.put, Act.eval]
                rw [Array.getD_eq_getD_getElem?, Array.getElem?_setIfInBounds_self_of_lt (by rw [hg2.size]; simpa [St.set, St.fits] using b10)]; rfl
              have hcl : ∀ (aa : Act) (x3 : Value) (w' : World), aa.eval (.tmp u3) = x3 → (Builtin.clear_ ts o4.type #[x3]).run P w = .ok (.tuple #[]) w' → (execOp aa.eval o4).run P w = .ok (.value (.tuple #[])) w' := by
                intro aa x3 w' h1 h2
                have ha' : as = #[.tmp u3] := by rw [← Array.toArray_toList (xs := as), ha]
                subst ha'
                simp only [execOp, f4]
                simp [resolve, invoke, builtin, h1, h2]
              rcases q4.2 with ⟨h6, h7⟩ | ⟨g, cap, cur, h6, h7, h8, h9, h10, h11, h12⟩
              · -- nil
                have hrow : rows = [] := List.eq_nil_of_length_eq_zero h7
                have hi00 : i.toNat = 0 := by rw [hrow] at hi1; simp at hi1; omega
                have r3 : (execOp a2.eval o3).run P w = .ok (.value (.slice none 0 0)) w := by
                  have := hb0 0 (by omega)
                  simp only [execOp, f3, k1, k2, h6]
                  rw [hi00] at this
                  simp [Instr.sliceAt, Instr.slice, run_underlying hu, Instr.sliceBounds, tsize_run hsz, this, k1, k2, h6]
                rw [r3]
                show _ ∨ _
                left
                rw [p3]
                have hts0 : ts[0]? = some t := by rw [← Array.getElem?_toList, hts]; rfl
                have r4 := hcl (a2.put (some u3) (.slice none 0 0)) _ w (hev _) (by simp [Builtin.clear_, hts0, run_underlying hu])
                rw [r4]
                show Q .normal _ w
                refine hq _ _ (fin _ _ w xs ⟨rfl, rfl, rfl, Nat.le_refl _, fun _ _ _ => rfl⟩ q4 ?_)
                rw [hrow] at q5 ⊢
                simp only [List.length_nil, List.take_nil, Nat.zero_sub, List.replicate_zero, List.append_nil]
                exact irepL_mono (fun b o h => ⟨.inl h, rfl⟩) _ _ q5
              · have hts0 : ts[0]? = some t := by rw [← Array.getElem?_toList, hts]; rfl
                have r3 : (execOp a2.eval o3).run P w = .ok (.value (.slice (if cap = i.toNat then some ⟨g, 0, none⟩ else some ⟨g, i.toNat * s, none⟩) (rows.length - i.toNat) (cap - i.toNat))) w := by
                  have := hb0 rows.length (by omega)
                  simp only [execOp, f3, k1, k2, h6]
                  simp [Instr.sliceAt, Instr.slice, run_underlying hu, Instr.sliceBounds, tsize_run hsz, this, k1, k2, h6, Addr.add_lit]
                rw [r3]
                show _ ∨ _
                left
                rw [p3]
                have hgb0 : w.grownBy w lc.row.ownBlock := ⟨rfl, rfl, rfl, Nat.le_refl _, fun _ _ _ => rfl⟩
                by_cases hz0 : rows.length - i.toNat = 0
                · have r4 := hcl (a2.put (some u3) (.slice (if cap = i.toNat then some ⟨g, 0, none⟩ else some ⟨g, i.toNat * s, none⟩) (rows.length - i.toNat) (cap - i.toNat))) _ w (hev _) (by
                    rw [hz0]
                    split <;> simp [Builtin.clear_, hts0, run_underlying hu])
                  rw [r4]
                  show Q .normal _ w
                  refine hq _ _ (fin _ _ w xs hgb0 q4 ?_)
                  rw [hz0, List.take_of_length_le (by omega)]
                  simpa [Env.putRow] using q5
                · have hci : cap ≠ i.toNat := by omega
                  have hcs : cur.size = cap * s := h11
                  let zs := (List.replicate (rows.length - i.toNat) z).flatten
                  have hzs : zs.length = (rows.length - i.toNat) * s := by
                    show (List.replicate (rows.length - i.toNat) z).flatten.length = _
                    rw [List.length_flatten, List.map_replicate, List.sum_replicate_nat, hzl]
                  have hle : i.toNat * s + zs.length ≤ rows.length * s := by rw [hzs, ← Nat.add_mul]; exact Nat.mul_le_mul_right _ (by omega)
                  have hle2 : rows.length * s ≤ cap * s := Nat.mul_le_mul_right _ h9
                  have hst := run_storeCells_at (P := P) g (i.toNat * s) e0 zs 0 cur w h8 (by omega) (by
                    intro v hv
                    obtain ⟨l', h1, h2⟩ := List.mem_flatten.1 hv
                    rw [List.eq_of_mem_replicate h1] at h2
                    exact hone v h2)
                  have r4 := hcl (a2.put (some u3) (.slice (if cap = i.toNat then some ⟨g, 0, none⟩ else some ⟨g, i.toNat * s, none⟩) (rows.length - i.toNat) (cap - i.toNat))) _ (w.setRow g (cur.toList.take (i.toNat * s + 0) ++ zs ++ cur.toList.drop (i.toNat * s + 0 + zs.length)).toArray) (hev _) (by
                    rw [if_neg hci]
                    obtain ⟨m, hm⟩ : ∃ m, rows.length - i.toNat = m + 1 := ⟨rows.length - i.toNat - 1, by omega⟩
                    have hzc := zeroCells_reps z (rows.length - i.toNat) (by omega)
                    have hzc' : (Builtin.zeroCells zv.cells (rows.length - i.toNat)).toList = zs := by rw [hz2]; exact hzc
                    simp only [Builtin.clear_, hts0]
                    rw [hm] at hzc' ⊢
                    simp [run_underlying hu, hz1, hzc', hst])
                  rw [r4]
                  show Q .normal _ _
                  have hnew : (w.setRow g (cur.toList.take (i.toNat * s + 0) ++ zs ++ cur.toList.drop (i.toNat * s + 0 + zs.length)).toArray).heap[g]? = some (.cells (cur.toList.take (i.toNat * s + 0) ++ zs ++ cur.toList.drop (i.toNat * s + 0 + zs.length)).toArray e0 (0, 0)) := setRow_heap w _ _ _ _ _ h8
                  have hlc : cur.toList.length = cap * s := by rw [Array.length_toList]; exact hcs
                  refine hq _ _ (fin _ _ _ (xs.take (i.toNat * s) ++ zs) ?_ ?_ ?_)
                  · rw [h6]
                    exact ⟨rfl, rfl, rfl, by simp, fun b _ hb => setRow_other w _ _ _ (fun h => hb (by rw [h]; rfl))⟩
                  · refine ⟨by rw [List.length_append, List.length_take, q4.1, hzs, Nat.min_eq_left (by omega)]; rw [hzs] at hle; rw [← Nat.add_mul]; congr 1; omega, .inr ⟨g, cap, _, h6, h7, hnew, h9, h10, ?_, ?_⟩⟩
                    · simp only [List.size_toArray, List.length_append, List.length_take, List.length_drop, hlc]
                      omega
                    · have e1 : rows.length * s = i.toNat * s + zs.length := by rw [hzs, ← Nat.add_mul]; congr 1; omega
                      simp only [Nat.add_zero]
                      rw [List.take_left' (l₁ := cur.toList.take (i.toNat * s) ++ zs) (by rw [List.length_append, List.length_take, hlc, Nat.min_eq_left (by omega)]; exact e1.symm)]
                      rw [← h12, List.take_take, Nat.min_eq_left (by omega)]
                  · have hI : ImmKept E.imm (E.putRow l ⟨lc.blk, lc.row, rows.length⟩ false (rows.length * s)).imm w (w.setRow g (cur.toList.take (i.toNat * s + 0) ++ zs ++ cur.toList.drop (i.toNat * s + 0 + zs.length)).toArray) := by
                      intro b o hb
                      refine ⟨.inl hb, World.cell?_of_block (w := w) (setRow_other w _ _ _ (fun h => ?_))⟩
                      exact q6 g (by rw [h6]; rfl) o (.inl rfl) (by rw [← show b = g from h]; exact hb)
                    rw [List.flatten_append, take_flat _ q3, hflat]
                    refine irepL_append (irepL_mono hI _ _ (irepL_take _ q5)) (lits_irepL ?_)
                    intro v hv
                    obtain ⟨l', h1, h2⟩ := List.mem_flatten.1 hv
                    rw [List.eq_of_mem_replicate h1] at h2
                    exact hone v h2
          · simp at h
        · simp at h
      · simp at h
    · simp at h
  · simp at h

/-! ### a row under a new name -/
def renV (l l2 : Nat) : V → V
  | .sref l' n => bif Nat.beq l' l then .sref l2 n else .sref l' n
  | v => v
def renOk (st : St) (l n : Nat) : List Nat → Prop
  | [] => True
  | i :: ss => (match st.s i with
    | .sref l' m => m = n
    | _ => False) ∧ renOk st l n ss
theorem renOk_get {st : St} {l n : Nat} : ∀ {ss : List Nat}, renOk st l n ss → ∀ i ∈ ss, ∃ l' m, st.s i = .sref l' m ∧ m = n
  | [], _, i, h => by simp at h
  | k :: ss, h, i, hi => by
    simp only [renOk] at h
    rcases List.mem_cons.1 hi with rfl | hi
    · have h1 := h.1
      split at h1
      · rename_i l' m hm; exact ⟨l', m, hm, h1⟩
      · exact h1.elim
    · exact renOk_get h.2 i hi
theorem memN_mem {n : Nat} : ∀ {l : List Nat}, memN n l = true → n ∈ l
  | [], h => by simp [memN] at h
  | k :: l, h => by
    simp only [memN, Bool.or_eq_true] at h
    rcases h with h | h
    · rw [Nat.eq_of_beq_eq_true h]; simp
    · exact List.mem_cons_of_mem _ (memN_mem h)
def renSt (st : St) (l l2 e sz : Nat) (rows : List (List V)) (ss : List Nat) : St :=
  ⟨st.n, fun i => bif memN i ss then renV l l2 (st.s i) else st.s i, updf (updf st.ob l (some .gone)) l2 (some (.row e sz rows true)), st.nx⟩
theorem Rl.renamed {E0 : Env} {M0 : Nat → Prop} {w0 : World} {st : St} {a : Act} {w : World} (h : Rl E0 M0 w0 st a w) {l l2 e sz : Nat} {rows : List (List V)} (ho : st.ob l = some (.row e sz rows true)) (hl : st.ob l2 = none) {ss : List Nat}
    (hs : renOk st l rows.length ss) : Rl E0 M0 w0 (renSt st l l2 e sz rows ss) a w := by
  obtain ⟨E, hg, he, hk⟩ := h
  obtain ⟨lc, h1⟩ := loc_of hg ho
  obtain ⟨q1, q2, q3, xs, q4, _⟩ := hg.objs.ok l _ lc ho h1
  obtain ⟨r1, r2, r3⟩ := cut_row hg ho hl h1 (k := rows.length) (Nat.le_refl _)
  rw [List.take_length] at r1 r2
  refine ⟨_, ⟨r1.size, r1.defs, fun i => ?_, r1.objs⟩, he.trans r2, hk.trans r3⟩
  show rep _ w (bif memN i ss then renV l l2 (st.s i) else st.s i) _
  have hi := r1.slots i
  cases hm : memN i ss with
  | false => exact hi
  | true =>
    obtain ⟨l', m, e1, e2⟩ := renOk_get hs i (memN_mem hm)
    subst e2
    have hi' : rep _ w (st.s i) (a.tmps.getD i undef) := hi
    have h0 := hg.slots i
    rw [e1] at h0 hi' ⊢
    simp only [cond_true, renV]
    cases hb : Nat.beq l' l with
    | false => exact hi'
    | true =>
      have e3 := Nat.eq_of_beq_eq_true hb; subst e3
      obtain ⟨lc', j1, j2⟩ := sref_row hg ho rfl h0
      rw [h1] at j1; simp only [Option.some.injEq] at j1; subst j1
      simp only [cond_true, rep]
      have hcv : cutV rows.length lc.row = lc.row := by
        rcases q4.2 with ⟨h6, h7⟩ | ⟨g, cap, cur, h6, _⟩ <;> rw [h6] <;> simp [cutV]
        exact List.eq_nil_of_length_eq_zero h7
      refine ⟨?_, _, by simp only [Env.put]; exact updf_same _ _ _, Nat.le_refl _, fun _ => ?_⟩
      · rw [j2]; rcases q4.2 with ⟨h6, h7⟩ | ⟨g, cap, cur, h6, _⟩ <;> rw [h6] <;> rfl
      · rw [hcv]; exact j2
end Go.Proofs.Fw
