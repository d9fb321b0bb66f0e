/- Rarer operations: pointers compared, bytes and texts, lists made and copied. -/
import Derived.Test.YtnjcokelpolpcaaGreatFwJ
import Derived.Lib.Builder
import Derived.Lib.UnsafeStr
import Derived.Laws.OwnMore
import Derived.Laws.CopyRow
import Derived.Laws.IdiomStrings
import Derived.Laws.Externs
set_option linter.unusedVariables false
set_option linter.unusedSimpArgs false
set_option linter.unusedSectionVars false
set_option linter.unnecessarySimpa false
namespace Go.Proofs.Fw
open Go Go.RowKit

/-- A text's bytes, as a list's rows. -/
def cBytes (s : ByteArray) : List (List V) := s.data.toList.map fun b => [.lit (.int .u8 (b.toNat : Int))]
theorem cBytes_length (s : ByteArray) : (cBytes s).length = s.size := by
  rw [cBytes, List.length_map, Array.length_toList]; rfl
theorem cBytes_flat (s : ByteArray) : (cBytes s).flatten = (Lib.byteCells s.data.toList).map V.lit := by
  unfold cBytes Lib.byteCells
  induction s.data.toList with
  | nil => rfl
  | cons b l ih => simp [ih]
theorem irepL_lits {I : Nat → Nat → Prop} {w : World} : ∀ {l : List Value} {xs : List Value}, irepL I w (l.map V.lit) xs → xs = l
  | [], xs, h => by simpa only [List.map_nil, irepL] using h
  | v :: l, xs, h => by
    simp only [List.map_cons, irepL, irep] at h
    obtain ⟨y, ys, rfl, ⟨rfl, _⟩, h2⟩ := h
    rw [irepL_lits h2]
theorem cBytes_vals {I : Nat → Nat → Prop} {w : World} {s : ByteArray} {xs : List Value} (h : irepL I w (cBytes s).flatten xs) : xs = Lib.byteCells s.data.toList := by
  rw [cBytes_flat] at h; exact irepL_lits h
theorem lits_irepL {I : Nat → Nat → Prop} {w : World} : ∀ {l : List Value}, (∀ v ∈ l, v.oneCell' = true) → irepL I w (l.map V.lit) l
  | [], _ => by simp only [List.map_nil, irepL]
  | v :: l, h => by
    simp only [List.map_cons, irepL, irep]
    exact ⟨v, l, rfl, ⟨rfl, h v (by simp)⟩, lits_irepL (fun u hu => h u (by simp [hu]))⟩

def isPtrT (P : Program) (t : TypeId) : Bool := match P.underlying t with
  | some (.pointer te) => (P.info? te).isSome
  | _ => false
theorem isPtrT_get {P : Program} {t : TypeId} (h : isPtrT P t = true) : ∃ te j, P.underlying t = some (.pointer te) ∧ P.info? te = some j := by
  unfold isPtrT at h
  split at h
  · rename_i te hu
    obtain ⟨j, hj⟩ := Option.isSome_iff_exists.1 h
    exact ⟨te, j, hu, hj⟩
  · simp at h

section
variable {P : Program} (w : World)
theorem run_eql_ptr_nil {tp te : TypeId} (a : Addr) (hp : P.underlying tp = some (.pointer te)) :
    (binOp .eql tp (.pointer (some a)) (.pointer none)).run P w = .ok (.bool false) w := by
  have h : ∀ d : Nat, (Op.equalIn (d + 1) tp (.pointer (some a)) (.pointer none)).run P w = .ok false w := fun d => by
    simp [Op.equalIn, run_underlying hp]
  simp only [binOp]
  simp [Op.equal, Op.maxDepth, h 9999]
theorem run_eql_nil_nil {tp te : TypeId} (hp : P.underlying tp = some (.pointer te)) :
    (binOp .eql tp (.pointer none) (.pointer none)).run P w = .ok (.bool true) w := by
  have h : ∀ d : Nat, (Op.equalIn (d + 1) tp (.pointer none) (.pointer none)).run P w = .ok true w := fun d => by
    simp [Op.equalIn, run_underlying hp]
  simp only [binOp]
  simp [Op.equal, Op.maxDepth, h 9999]
end

def rareBin (P : Program) (op : BinOp) (t : TypeId) (x y : V) : AR := match op, isPtrT P t, x, y with
  | .eql, true, .ptr _ _, .lit (.pointer none) => some (none, .lit (.bool false))
  | .eql, true, .lit (.pointer none), .lit (.pointer none) => some (none, .lit (.bool true))
  | .neq, true, .ptr l a, .ptr l' a' => bif Nat.beq l l' && Nat.beq a a' then some (none, .lit (.bool false)) else none
  | _, _, _, _ => none
theorem eqGuard_ptr {P : Program} {w : World} (op : BinOp) (t : TypeId) (p q : Operand) (a b : Option Addr) : (eqGuard op t p q (.pointer a) (.pointer b)).run P w = .ok () w := by
  unfold eqGuard; cases op <;> simp
theorem rareBin_ptr {op : BinOp} {P : Program} {t : TypeId} {x y : V} {vc : VC} {v : V} (h : rareBin P op t x y = some (vc, v)) {E : Env} {w : World} {a b : Value} (hx : rep E w x a) (hy : rep E w y b) : ∃ p q, a = .pointer p ∧ b = .pointer q := by
  unfold rareBin at h
  split at h
  · simp only [rep] at hx hy
    obtain ⟨lc, _, rfl⟩ := hx; subst hy; exact ⟨_, _, rfl, rfl⟩
  · simp only [rep] at hx hy
    subst hx; subst hy; exact ⟨_, _, rfl, rfl⟩
  · simp only [rep] at hx hy
    obtain ⟨lc, _, rfl⟩ := hx; obtain ⟨lc', _, rfl⟩ := hy; exact ⟨_, _, rfl, rfl⟩
  · simp at h
theorem rareBin_run {op : BinOp} {P : Program} {t : TypeId} {x y : V} {vc : VC} {v : V} (h : rareBin P op t x y = some (vc, v)) {E : Env} {w : World} {a b : Value} (hx : rep E w x a) (hy : rep E w y b) :
    ∃ z, (binOp op t a b).run P w = .ok z w ∧ rep E w v z := by
  unfold rareBin at h
  split at h
  · rename_i ht
    obtain ⟨te, j, h1, h2⟩ := isPtrT_get ht
    simp only [Option.some.injEq, Prod.mk.injEq] at h; obtain ⟨_, rfl⟩ := h
    simp only [rep] at hx hy
    obtain ⟨lc, _, rfl⟩ := hx; subst hy
    exact ⟨_, run_eql_ptr_nil w _ h1, rep_lit⟩
  · rename_i ht
    obtain ⟨te, j, h1, h2⟩ := isPtrT_get ht
    simp only [Option.some.injEq, Prod.mk.injEq] at h; obtain ⟨_, rfl⟩ := h
    simp only [rep] at hx hy
    subst hx; subst hy
    exact ⟨_, run_eql_nil_nil w h1, rep_lit⟩
  · rename_i l o l' o' ht
    obtain ⟨te, j, h1, h2⟩ := isPtrT_get ht
    cases hb : Nat.beq l l' && Nat.beq o o' with
    | false => simp [hb] at h
    | true =>
      simp only [hb, cond_true, Option.some.injEq, Prod.mk.injEq] at h; obtain ⟨_, rfl⟩ := h
      simp only [Bool.and_eq_true] at hb
      obtain ⟨b1, b2⟩ := hb
      have e1 := Nat.eq_of_beq_eq_true b1; have e2 := Nat.eq_of_beq_eq_true b2
      subst e1; subst e2
      simp only [rep] at hx hy
      obtain ⟨lc, h3, rfl⟩ := hx
      obtain ⟨lc', h4, rfl⟩ := hy
      rw [h3] at h4; simp only [Option.some.injEq] at h4; subst h4
      exact ⟨_, Lib.run_neq_ptr_same w _ h1 h2, rep_lit⟩
  · simp at h

def rareConv (P : Program) (st : St) (hv : Option V) (src dst : TypeId) (x : V) : AR := match P.underlying src, P.underlying dst, x with
  | some (.pointer t), some .unsafePointer, .ptr l off => match st.ob l, P.info? t with
    | some (.box _ cells), some j => bif !(Nat.beq j.size 0) && Nat.blt off cells.length then some (none, .ptr l off) else none
    | _, _ => none
  | some .unsafePointer, some (.pointer u), .ptr l off => match st.ob l, P.info? u with
    | some (.box T cells), some j => bif liesAt P P.depth T (cells.length / P.cellsOf T) off u 1 then some (none, .ptr l off) else none
    | _, _ => none
  | some (.slice e), some .string, .sref l n => match st.ob l, P.underlying e, hv with
    | some (.row _ sz rows _), some (.int .u8), some (.lit (.string s)) => bif Nat.beq sz 1 then some (some (n = rows.length ∧ rows = cBytes s), .lit (.string s)) else none
    | _, _, _ => none
  | _, _, _ => none
theorem rareConv_run {P : Program} {st : St} {hv : Option V} {src dst : TypeId} {x : V} {vc : VC} {v : V} (h : rareConv P st hv src dst x = some (vc, v)) (hvc : holds vc) {E : Env} {a : Act} {w : World} (hg : Good E st a w) {y : Value} (hx : rep E w x y) :
    ∃ z, (convert src dst y).run P w = .ok z w ∧ rep E w v z := by
  unfold rareConv at h
  split at h
  · rename_i t l off hs hd
    split at h
    · rename_i T cells j ho hj
      cases hb : !(Nat.beq j.size 0) && Nat.blt off cells.length with
      | false => simp [hb] at h
      | true =>
        simp only [hb, cond_true, Option.some.injEq, Prod.mk.injEq] at h; obtain ⟨_, rfl⟩ := h
        simp only [Bool.and_eq_true] at hb
        have h0 : j.size ≠ 0 := by intro e; rw [e] at hb; simp at hb
        have h1 := blt_lt hb.2
        have hx' := hx
        simp only [rep] at hx
        obtain ⟨lc, g1, rfl⟩ := hx
        obtain ⟨ys, q1, q2, _⟩ := hg.objs.ok l _ lc ho g1
        exact ⟨_, Lib.run_to_unsafe w ⟨lc.blk, off, none⟩ hs hd hj h0 (e := T) (cells := ys.length) (by simp [World.shape?, q1]) (by rw [← repL_length q2]; exact h1), hx'⟩
    · simp at h
  · rename_i u l off hs hd
    split at h
    · rename_i T cells j ho hj
      cases hb : liesAt P P.depth T (cells.length / P.cellsOf T) off u 1 with
      | false => simp [hb] at h
      | true =>
        simp only [hb, cond_true, Option.some.injEq, Prod.mk.injEq] at h; obtain ⟨_, rfl⟩ := h
        have hx' := hx
        simp only [rep] at hx
        obtain ⟨lc, g1, rfl⟩ := hx
        obtain ⟨ys, q1, q2, _⟩ := hg.objs.ok l _ lc ho g1
        exact ⟨_, Lib.run_from_unsafe w ⟨lc.blk, off, none⟩ hs hd hj (e := T) (cells := ys.length) (by simp [World.shape?, q1]) (by rw [← repL_length q2]; exact hb), hx'⟩
    · simp at h
  · rename_i e l n hs hd
    split at h
    · rename_i e' sz rows wr s ho he
      cases hb : Nat.beq sz 1 with
      | false => simp [hb] at h
      | true =>
        simp only [hb, cond_true, Option.some.injEq, Prod.mk.injEq] at h; obtain ⟨rfl, rfl⟩ := h
        obtain ⟨h1, h2⟩ := hvc
        subst h2
        obtain ⟨lc, k1, k2, rfl, k3⟩ := sref_val hg hx ho h1
        obtain ⟨_, _, q3, xs, q4, q5, _⟩ := k2
        have hxs := cBytes_vals q5
        subst hxs
        rcases q4.2 with ⟨h5, h6⟩ | ⟨g, cap, cur, h5, _⟩
        · rw [h5]
          refine ⟨.string s, ?_, rep_lit⟩
          have hs0 : s = .empty := by
            rw [cBytes_length] at h6
            exact ByteArray.ext (Array.eq_empty_of_size_eq_zero h6)
          rw [run_convert_bytes_string w src dst e none 0 0 hs he hd, hs0]
          simp [Conv.bytesToString]
        · rw [h5, cBytes_length]
          refine ⟨.string s, ?_, rep_lit⟩
          have hlen : s.size = s.data.toList.length := by simp
          have := run_convert_bytes_back (P := P) w src dst e ⟨g, 0, none⟩ cap s.data.toList hs he hd (fun j hj => by
            refine q4.cells (g := g) (by rw [h5]; rfl) j _ ?_
            unfold Lib.byteCells
            rw [List.getElem?_map, List.getElem?_eq_getElem hj]; rfl)
          rw [hlen]
          rw [this]
    · simp at h
  · simp at h

def rarePure (P : Program) (st : St) (hv : Option V) : Op → AR
  | .binOp op t x y _ => rareBin P op t (ev st x) (ev st y)
  | .convert src dst x => rareConv P st hv src dst (ev st x)
  | .call { callee := .value (.func f), args, .. } => match P.funcs[f]?, args.toList with
    | some fn, [x] => bif fn.body.isNone && fn.name == "internal/abi.NoEscape" && fn.origin == "" then some (none, ev st x) else none
    | _, _ => none
  | .call { callee := .builtin .unsafeSliceData, args, .. } => match args.toList with
    | [x] => match ev st x with
      | .sref l n => match st.ob l with
        | some (.row _ sz rows _) => some (some (n = rows.length ∧ 0 < n), .rp l n sz 0 0)
        | _ => none
      | _ => none
    | _ => none
  | .slice t x none (some h) none => match P.underlying t, ev st x, ev st h with
    | some (.array N e), .ptr l o, .lit (.int _ m) => bif Nat.beq o 0 && (tsize P e).isSome then some (some (0 ≤ m ∧ m ≤ N), .own l m.toNat []) else none
    | _, _, _ => none
  | _ => none

theorem noEscape_run {P : Program} {f : Nat} {fn : Func} (hf : P.funcs[f]? = some fn) (hb : fn.body.isNone = true) (hn : fn.name = "internal/abi.NoEscape") (ho : fn.origin = "") (x : Value) (w : World) : (callFunc f #[x]).run P w = .ok (.value x) w := by
  have h1 : Extern.allNextRows.lookup "internal/abi.NoEscape" = none := by kernel_rfl
  have h2 : Extern.allNextRows.lookup "" = none := by kernel_rfl
  have h3 : Extern.allGenericRows.lookup "internal/abi.NoEscape" = none := by kernel_rfl
  have h4 : Extern.allTypedRows.lookup "internal/abi.NoEscape" = none := by kernel_rfl
  have h5 : Extern.allRows.lookup "internal/abi.NoEscape" = some Extern.AbiNoEscape.same := by kernel_rfl
  have k1 : Extern.findNext fn = none := by simp [Extern.findNext, hn, ho, h1, h2]
  have k2 : Extern.find fn = some Extern.AbiNoEscape.same := by simp [Extern.find, hn, h3, h4, h5]
  rw [run_callFunc_extern hf (by rw [hn]; rfl) hb k1 k2]
  rw [Lib.run_noEscape]; rfl

theorem rarePure_run {P : Program} {st : St} {hv : Option V} {o : Oper} {vc : VC} {v : V} (h : rarePure P st hv o.op = some (vc, v)) (hvc : holds vc) {E : Env} {a : Act} {w : World} (hg : Good E st a w) :
    ∃ x, (execOp a.eval o).run P w = .ok (.value x) w ∧ rep E w v x := by
  unfold rarePure at h
  split at h
  · rename_i op t x y u hop
    obtain ⟨z, h1, h2⟩ := rareBin_run (P := P) h (ev_rep hg x) (ev_rep hg y)
    obtain ⟨p, q, e1, e2⟩ := rareBin_ptr (P := P) h (ev_rep hg x) (ev_rep hg y)
    exact ⟨z, by rw [e1, e2] at h1; simp [execOp, hop, e1, e2, eqGuard_ptr, h1], h2⟩
  · rename_i src dst x hop
    obtain ⟨z, h1, h2⟩ := rareConv_run h hvc hg (ev_rep hg x)
    exact ⟨z, by simp [execOp, hop, h1], h2⟩
  · rename_i f args types hop
    split at h
    · rename_i fn x hf ha
      cases hb : fn.body.isNone && fn.name == "internal/abi.NoEscape" && fn.origin == "" with
      | false => simp [hb] at h
      | true =>
        simp only [hb, cond_true, Option.some.injEq, Prod.mk.injEq] at h; obtain ⟨_, rfl⟩ := h
        simp only [Bool.and_eq_true, beq_iff_eq] at hb
        obtain ⟨⟨b1, b2⟩, b3⟩ := hb
        have e1 : args = #[x] := by rw [← Array.toArray_toList (xs := args), ha]
        subst e1
        refine ⟨a.eval x, ?_, ev_rep hg x⟩
        have := noEscape_run hf b1 b2 b3 (a.eval x) w
        have hof : (Deferred.ofValue (.func (.func f) #[] #[]) #[a.eval x]).run P w = .ok ⟨.fn (.func f) #[], #[a.eval x]⟩ w := by simp [Deferred.ofValue]
        have hof' : a.eval (.func f) = .func (.func f) #[] #[] := rfl
        simp only [execOp, hop, resolve, hof', Array.map_singleton, List.map_toArray, List.map_cons, List.map_nil]
        simp [hof, invoke, this]
    · simp at h
  · rename_i args types hop
    split at h
    · rename_i x ha
      split at h
      · rename_i l n hx
        split at h
        · rename_i e sz rows wr ho
          simp only [Option.some.injEq, Prod.mk.injEq] at h; obtain ⟨rfl, rfl⟩ := h
          obtain ⟨h1, h2⟩ := hvc
          have e1 : args = #[x] := by rw [← Array.toArray_toList (xs := args), ha]
          subst e1
          have hxv := ev_rep hg x
          rw [hx] at hxv
          obtain ⟨lc, k1, k2, k3, k4⟩ := sref_val hg hxv ho h1
          obtain ⟨q1, q2, q3, xs, q4, q5, _⟩ := k2
          rcases q4.2 with ⟨h5, h6⟩ | ⟨g, cap, cur, h5, _, _, h7, _⟩
          · omega
          · refine ⟨.pointer (some ⟨g, 0, none⟩), ?_, ?_⟩
            · have hr := Lib.run_unsafeSliceData_row (P := P) w types o.type ⟨g, 0, none⟩ rows.length cap (by omega)
              simp [execOp, hop, resolve, invoke, builtin, k3, h5, hr]
            · simp only [rep]
              exact ⟨g, 0, rfl, lc, k1, by omega, fun _ => ⟨by omega, cap, by rw [h5, h1]⟩⟩
        · simp at h
      · simp at h
    · simp at h
  · rename_i t x hh hop
    split at h
    · rename_i N e l oo k m hu hx hm
      cases hb : Nat.beq oo 0 && (tsize P e).isSome with
      | false => simp [hb] at h
      | true =>
        simp only [hb, cond_true, Option.some.injEq, Prod.mk.injEq] at h; obtain ⟨rfl, rfl⟩ := h
        obtain ⟨h1, h2⟩ := hvc
        simp only [Bool.and_eq_true] at hb
        obtain ⟨hb, hs0⟩ := hb
        have e0 := Nat.eq_of_beq_eq_true hb; subst e0
        have hxv := ev_rep hg x
        rw [hx] at hxv
        simp only [rep] at hxv
        obtain ⟨lc, k1, k2⟩ := hxv
        have hmv := ev_rep hg hh
        rw [hm] at hmv; simp only [rep] at hmv
        refine ⟨.slice (some ⟨lc.blk, 0, none⟩) m.toNat N, ?_, ?_⟩
        · cases hs : tsize P e with
          | none => rw [hs] at hs0; simp at hs0
          | some n => simp [execOp, hop, Instr.sliceAt, run_underlying hu, Instr.sureAddr, k2, Instr.sliceBounds, Instr.sliceBound, asIntOf, hmv, h1, h2, tsize_run hs, Addr.add]
        · simp only [rep]
          exact ⟨lc, N, k1, by omega, rfl⟩
    · simp at h
  · simp at h

/-! ### operations that change -/
theorem freeze_other (w : World) (p : Addr) (n b : Nat) (h : b ≠ p.block) : (w.freeze p n).heap[b]? = w.heap[b]? := by
  unfold World.freeze
  split
  · rfl
  · simp only [Array.getElem?_modify]; rw [if_neg (Ne.symm h)]
theorem freeze_size (w : World) (p : Addr) (n : Nat) : (w.freeze p n).heap.size = w.heap.size := by
  unfold World.freeze; split <;> simp
theorem freeze_os (w : World) (p : Addr) (n : Nat) : (w.freeze p n).os = w.os ∧ (w.freeze p n).tape = w.tape ∧ (w.freeze p n).output = w.output := by
  unfold World.freeze; split <;> exact ⟨rfl, rfl, rfl⟩

/-- An object is given up; its block may be other than it was. -/
theorem set_gone {E : Env} {st : St} {a : Act} {w w' : World} (hg : Good E st a w) {l : Nat} {o : Ob} (ho : st.ob l = some o) {lc : Loc} (h1 : E.loc l = some lc) {g : Nat} (hgb : blkOf lc o = some g)
    (himm : ∀ i, ¬ E.imm g i) (hoth : ∀ b, b ≠ g → w'.heap[b]? = w.heap[b]?) (hsz : w'.heap.size = w.heap.size) (hos : w'.os = w.os ∧ w'.tape = w.tape ∧ w'.output = w.output) :
    Good E { st with ob := updf st.ob l (some .gone) } a w' ∧ Ext E (mod E st.ob) w E w' (updf st.ob l (some .gone)) := by
  have hI : ImmKept E.imm E.imm w w' := fun b i hb => ⟨hb, World.cell?_of_block (w := w) (hoth b (fun e => himm i (e ▸ hb)))⟩
  have hK := LocKept.refl E
  have hmod : mod E st.ob g := ⟨l, lc, o, h1, ho, hgb⟩
  refine ⟨⟨hg.size, hg.defs, fun i => rep_mono hI hK _ _ (hg.slots i), ?_⟩, ?_⟩
  · refine hg.objs.change l hI hK (fun _ _ => rfl) (fun l' h => updf_other _ _ h) (by simp [h1, updf_same]) ?_ ?_ ?_ ?_
    · intro l' o' lc' b hne g1 g2 g3
      refine ⟨hoth b (fun e => ?_), fun i h => h⟩
      exact hg.objs.disj l' l o' o lc' lc b hne g1 ho g2 h1 g3 (by rw [e]; exact hgb)
    · intro o' lc' g1 g2
      simp only [updf_same, Option.some.injEq] at g1
      subst g1; exact trivial
    · intro o' lc' b g1 g2 g3
      simp only [updf_same, Option.some.injEq] at g1
      subst g1; simp [blkOf] at g3
    · intro b i h; rw [hsz]; exact hg.objs.old b i h
  · refine ⟨hos.1, hos.2.1, hos.2.2, by rw [hsz]; exact Nat.le_refl _, hI, fun k hk hm => hoth k (fun e => hm (e ▸ hmod)), ?_, fun b i h => .inl h⟩
    rintro k ⟨l', lc', o', g1, g2, g3⟩
    by_cases hne : l' = l
    · subst hne
      simp only [updf_same, Option.some.injEq] at g2
      subst g2; simp [blkOf] at g3
    · rw [updf_other _ _ hne] at g2
      exact .inl ⟨l', lc', o', g1, g2, g3⟩

def adUStr (P : Program) (st : St) (hv : Option V) (o : Oper) : Option (VC × St) := match o.op with
  | .call { callee := .builtin .unsafeString, args, argTypes } => match args.toList, argTypes.toList, hv with
    | [x, y], [pt, it], some (.lit (.string s)) => match P.underlying pt, ev st x, ev st y with
      | some (.pointer e'), .rp l0 n sz i r, .lit (.int .i64 m) => match st.ob l0 with
        | some (.row e sz' rows true) => bif Nat.beq e e' && Nat.beq sz 1 && Nat.beq sz' 1 && Nat.beq i 0 && Nat.beq r 0 && Nat.beq (P.cellsOf e) 1 && st.fits o.dst then
            some (some (n = rows.length ∧ m = (n : Int) ∧ 0 < n ∧ n ≤ 9223372036854775807 ∧ rows = cBytes s), { st with ob := updf st.ob l0 (some .gone) }.set o.dst (.lit (.string s))) else none
        | _ => none
      | _, _, _ => none
    | _, _, _ => none
  | _ => none

theorem adUStr_step {P : Program} {st st' : St} {hv : Option V} {o : Oper} {vc : VC} (h : adUStr P st hv o = some (vc, st')) (hvc : holds vc) : Step P o st st' := by
  rintro Q E0 M0 w0 a w ⟨E, hg, he, hk⟩
  unfold adUStr at h
  split at h
  · rename_i args argTypes hop
    split at h
    · rename_i x y pt it s ha hat
      split at h
      · rename_i e' l0 n sz i r m hu hx hy
        split at h
        · rename_i e sz' rows ho
          cases hb : Nat.beq e e' && Nat.beq sz 1 && Nat.beq sz' 1 && Nat.beq i 0 && Nat.beq r 0 && Nat.beq (P.cellsOf e) 1 && st.fits o.dst with
          | false => simp [hb] at h
          | true =>
            simp only [hb, cond_true, Option.some.injEq, Prod.mk.injEq] at h
            obtain ⟨rfl, rfl⟩ := h
            simp only [Bool.and_eq_true] at hb
            obtain ⟨⟨⟨⟨⟨⟨b1, b2⟩, b3⟩, b4⟩, b5⟩, b6⟩, b7⟩ := hb
            have e1 := Nat.eq_of_beq_eq_true b1; have e2 := Nat.eq_of_beq_eq_true b2; have e3 := Nat.eq_of_beq_eq_true b3
            have e4 := Nat.eq_of_beq_eq_true b4; have e5 := Nat.eq_of_beq_eq_true b5; have e6 := Nat.eq_of_beq_eq_true b6
            subst e1; subst e2; subst e3; subst e4; subst e5
            obtain ⟨h1, h2, h3, h4, h5⟩ := hvc
            subst h5; subst h2
            have a1 : args = #[x, y] := by rw [← Array.toArray_toList (xs := args), ha]
            have a2 : argTypes = #[pt, it] := by rw [← Array.toArray_toList (xs := argTypes), hat]
            subst a1; subst a2
            have hxv := ev_rep hg x
            rw [hx] at hxv
            simp only [rep] at hxv
            obtain ⟨b, oo, hxe, lc, k1, k2, k3⟩ := hxv
            have hyv := ev_rep hg y
            rw [hy] at hyv; simp only [rep] at hyv
            have hok := hg.objs.ok l0 _ lc ho k1
            obtain ⟨q1, q2, q3, xs, q4, q5, q6, _⟩ := hok
            obtain ⟨r1, cap, r2⟩ := k3 (by omega)
            have hxs := cBytes_vals q5
            subst hxs
            have hoo : oo = 0 := by omega
            subst hoo
            rcases q4.2 with ⟨g1, _⟩ | ⟨g, cap', cur, g1, _, g2, g3, g4, g5, g6⟩
            · rw [g1] at r2; simp at r2
            · rw [r2] at g1
              simp only [Value.slice.injEq, Option.some.injEq, Addr.mk.injEq] at g1
              obtain ⟨⟨rfl, _⟩, _, rfl⟩ := g1
              have hlen : n = s.data.toList.length := by rw [h1, cBytes_length]; simp
              have hne : s.data.toList ≠ [] := by intro e; rw [e] at hlen; simp at hlen; omega
              have hrun := Lib.run_unsafeString_row (P := P) w pt it o.type e hu e6 b cur.size (by simp [World.shape?, g2]) s.data.toList hne (by rw [← hlen, g5]; rw [h1] at *; omega) (by omega) (fun j z hj => by
                refine q4.cells (g := b) (by rw [r2]; rfl) j _ ?_
                unfold Lib.byteCells
                rw [List.getElem?_map, hj]; rfl)
              have hr : (execOp a.eval o).run P w = .ok (.value (.string s)) (w.freeze ⟨b, 0, none⟩ s.data.toList.length) := by
                simp [execOp, hop, resolve, invoke, builtin, hxe, hyv]
                rw [hlen, hrun]; rfl
              unfold Oper.wp; rw [hr]
              have hbl : blkOf lc (.row e 1 (cBytes s) true) = some b := by simp [blkOf, r2, Value.ownBlock]
              obtain ⟨z1, z2⟩ := set_gone hg ho k1 hbl (fun i => q6 b (by simp [r2, Value.ownBlock]) i (.inl rfl)) (fun b' hb' => freeze_other w ⟨b, 0, none⟩ _ b' hb') (freeze_size _ _ _) (freeze_os _ _ _)
              exact ⟨⟨_, rfl⟩, Rl.put z1 (he.trans z2) hk (by cases hd : o.dst <;> simpa [St.fits, hd] using b7) rep_lit⟩
        · simp at h
      · simp at h
    · simp at h
  · simp at h

theorem splice_take {l : List Value} {n off : Nat} {us : List Value} (hl : off ≤ l.length) (h : off + us.length ≤ n) : (splice l off us).take n = splice (l.take n) off us := by
  have e1 : min n off = off := by omega
  have e2 : min off n = off := by omega
  have e3 : min off l.length = off := by omega
  have e4 : List.take (n - off) us = us := List.take_of_length_le (by omega)
  simp only [splice]
  rw [List.take_append, List.take_append]
  simp only [List.length_append, List.length_take, List.take_take, List.drop_take, e1, e2, e3, e4]

/-- Cells of a row of one's own, written. -/
theorem write_row {E : Env} {st : St} {a : Act} {w : World} (hg : Good E st a w) {l e sz : Nat} {rows rows' : List (List V)} (ho : st.ob l = some (.row e sz rows true)) {lc : Loc} (h1 : E.loc l = some lc) (hpos : 0 < rows.length)
    (hlen : rows'.length = rows.length) (hsz : ∀ r ∈ rows', r.length = sz) {off : Nat} {us : List Value} {cs : List V} (hoff : off + us.length ≤ rows.length * sz) (hus : irepL E.imm w cs us) (hfl : rows'.flatten = splice rows.flatten off cs) :
    ∃ g cap cur, lc.row = .slice (some ⟨g, 0, none⟩) rows.length cap ∧ w.heap[g]? = some (.cells cur e (0, 0)) ∧ rows.length * sz ≤ cur.size ∧
      Good (E.putRow l ⟨lc.blk, lc.row, rows'.length⟩ (!true) (rows'.length * sz)) { st with ob := updf st.ob l (some (.row e sz rows' true)) } a (w.setRow g (splice cur.toList off us).toArray) ∧
      Ext E (mod E st.ob) w (E.putRow l ⟨lc.blk, lc.row, rows'.length⟩ (!true) (rows'.length * sz)) (w.setRow g (splice cur.toList off us).toArray) (updf st.ob l (some (.row e sz rows' true))) ∧
      LocKept E (E.putRow l ⟨lc.blk, lc.row, rows'.length⟩ (!true) (rows'.length * sz)) := by
  have hok := hg.objs.ok l _ lc ho h1
  obtain ⟨q1, q2, q3, xs, q4, q5, q6, q7⟩ := hok
  rcases q4.2 with ⟨hz, hz2⟩ | ⟨g, cap, cur, g1, g2, g3, g4, g5, g6, g7⟩
  · omega
  have hgb : w.grownBy (w.setRow g (splice cur.toList off us).toArray) lc.row.ownBlock := by
    rw [g1]
    exact ⟨rfl, rfl, rfl, by simp, fun k hk hne => setRow_other w _ _ _ (fun e => hne (by simp [Value.ownBlock, e]))⟩
  have hrow : ∀ b, lc.row.ownBlock = some b → ∀ o, ¬ E.imm b o := fun b hb o => q6 b hb o (.inl rfl)
  have hI := own_imm hg hrow hgb
  have hxl : xs.length = rows.length * sz := q4.1
  have hcs := irepL_length hus
  have hsp : splice xs off us = (splice cur.toList off us).take (rows.length * sz) := by rw [splice_take (by have := congrArg List.length g7; simp at this; simp; omega) hoff, g7]
  have hcl : rows.length * sz ≤ cur.size := by
    have := congrArg List.length g7
    simp at this; omega
  have hown : (w.setRow g (splice cur.toList off us).toArray).ownsRow 0 e sz lc.row rows'.length (splice xs off us) := by
    refine ⟨?_, .inr ⟨g, cap, (splice cur.toList off us).toArray, by rw [hlen]; exact g1, g2, setRow_heap w _ _ _ _ _ g3, by rw [hlen]; exact g4, g5, ?_, ?_⟩⟩
    · rw [hlen]; simp only [splice, List.length_append, List.length_take, List.length_drop]; omega
    · simp only [List.size_toArray, splice, List.length_append, List.length_take, List.length_drop, Array.length_toList]; omega
    · rw [hlen]; exact hsp.symm
  have hI2 : ImmKept E.imm (E.putRow l ⟨lc.blk, lc.row, rows'.length⟩ (!true) (rows'.length * sz)).imm w (w.setRow g (splice cur.toList off us).toArray) := fun b o hb => ⟨.inl hb, (hI b o hb).2⟩
  have hx : irepL (E.putRow l ⟨lc.blk, lc.row, rows'.length⟩ (!true) (rows'.length * sz)).imm (w.setRow g (splice cur.toList off us).toArray) rows'.flatten (splice xs off us) := by
    rw [hfl]
    have : irepL E.imm w (splice rows.flatten off cs) (splice xs off us) := by
      simp only [splice]; rw [hcs]
      exact irepL_append (irepL_append (irepL_take _ q5) hus) (irepL_drop _ q5)
    exact irepL_mono hI2 _ _ this
  obtain ⟨r1, r2, r3⟩ := set_row hg ho h1 (v' := lc.row) (xs' := splice xs off us) (rows' := rows') hgb (by omega) (fun _ => rfl) hsz hown hx (fun b hb => .inl hb) (by intro h; simp at h)
  exact ⟨g, cap, cur, g1, g3, hcl, r1, r2, r3⟩

def adMake (P : Program) (st : St) (l : Nat) (o : Oper) : Option (VC × St) := match o.op with
  | .makeSlice t n c => match telem P t, ev st n, ev st c, st.ob l with
    | some e, .lit (.int k m), .lit (.int k' m'), none => match tsize P e, tbytes P e, tzero P e with
      | some sz, some by_, some [z] => bif Nat.beq sz 1 && z.oneCell' && st.fits o.dst then
          some (some (m' = m ∧ 0 < m ∧ by_ * m.toNat ≤ 281474976710656 ∧ m ≤ 140737488355328), { st with ob := updf st.ob l (some (.row e 1 (List.replicate m.toNat [.lit z]) true)) }.set o.dst (.sref l m.toNat)) else none
      | _, _, _ => none
    | _, _, _, _ => none
  | _ => none

theorem madeCells_one (z : Value) (n : Nat) : (madeCells #[z] n).toList = List.replicate n z := by
  unfold madeCells
  apply List.ext_getElem?
  intro i
  simp only [List.size_toArray, List.length_cons, List.length_nil, Nat.mod_one]
  have e : i % 1 = 0 := Nat.mod_one i
  by_cases h : i < n
  · simp [h, e]
  · simp [h]

theorem adMake_step {P : Program} {st st' : St} {l : Nat} {o : Oper} {vc : VC} (h : adMake P st l o = some (vc, st')) (hvc : holds vc) : Step P o st st' := by
  rintro Q E0 M0 w0 a w ⟨E, hg, he, hk⟩
  unfold adMake at h
  split at h
  · rename_i t n c hop
    split at h
    · rename_i e k m k' m' hte hn hc hl
      split at h
      · rename_i sz by_ z hsz hby hz
        cases hb : Nat.beq sz 1 && z.oneCell' && st.fits o.dst with
        | false => simp [hb] at h
        | true =>
          simp only [hb, cond_true, Option.some.injEq, Prod.mk.injEq] at h
          obtain ⟨rfl, rfl⟩ := h
          simp only [Bool.and_eq_true] at hb
          obtain ⟨⟨b1, b2⟩, b3⟩ := hb
          have e1 := Nat.eq_of_beq_eq_true b1; subst e1
          obtain ⟨rfl, h2, h3, h4⟩ := hvc
          have hnv := ev_rep hg n
          rw [hn] at hnv; simp only [rep] at hnv
          have hcv := ev_rep hg c
          rw [hc] at hcv; simp only [rep] at hcv
          unfold tsize at hsz; unfold tbytes at hby; unfold tzero at hz
          cases hi : P.info? e with
          | none => simp [hi] at hsz
          | some i =>
            simp only [hi, Option.map_some, Option.some.injEq, Option.bind_some, Option.map_eq_some_iff] at hsz hby hz
            obtain ⟨zv, z1, z2⟩ := hz
            have hzc : zv.cells = #[z] := by rw [← Array.toArray_toList (xs := zv.cells), z2]
            subst hby
            have hm : ((m'.toNat : Nat) : Int) = m' := by omega
            obtain ⟨w', p1, p2, p3⟩ := run_make_full w 0 t e i zv 1 (telem_eq hte) hi z1 hsz k k' m'.toNat h3 (by unfold maxLen; omega) (Nat.zero_le _) (P := P)
            rw [hm] at p1
            have hr : (execOp a.eval o).run P w = .ok (.value (.slice (some ⟨w.heap.size, 0, none⟩) m'.toNat m'.toNat)) w' := by
              simp [execOp, hop, hnv, hcv, p1]
            unfold Oper.wp; rw [hr]
            obtain ⟨g1, g2, g3⟩ := adopt_nil hg hl (e := e) (Nat.zero_lt_one) true
            have hlc : (E.put l ⟨0, .slice none 0 0, 0⟩).loc l = some ⟨0, .slice none 0 0, 0⟩ := by simp only [Env.put]; exact updf_same _ _ _
            have hgb : w.grownBy w' (Loc.mk 0 (.slice none 0 0) 0).row.ownBlock := p3
            obtain ⟨r1, r2, r3⟩ := set_row g1 (l := l) (e := e) (sz := 1) (wr := true) (rows := []) (rows' := List.replicate m'.toNat [.lit z]) (by simp only; exact updf_same _ _ _) hlc (v' := .slice (some ⟨w.heap.size, 0, none⟩) m'.toNat m'.toNat) (xs' := (madeCells zv.cells (m'.toNat * 1)).toList) hgb (by simp) (by simp; omega)
              (by intro r hr; rw [List.eq_of_mem_replicate hr]; rfl) (by rw [List.length_replicate]; exact p2) (by
                have e7 : (madeCells zv.cells (m'.toNat * 1)).toList = List.replicate m'.toNat z := by rw [hzc, Nat.mul_one]; exact madeCells_one z _
                rw [e7]
                have : (List.replicate m'.toNat [V.lit z]).flatten = (List.replicate m'.toNat z).map V.lit := by
                  generalize m'.toNat = q
                  induction q with
                  | zero => rfl
                  | succ q ih => simp only [List.replicate_succ, List.flatten_cons, List.map_cons, ih]; rfl
                rw [this]
                exact lits_irepL (fun v hv => by rw [List.eq_of_mem_replicate hv]; exact b2)) (by intro b hb; simp [Value.ownBlock] at hb; right; omega) (by simp)
            have hfin := Rl.put r1 ((he.trans g2).trans r2) ((hk.trans g3).trans r3) (d := o.dst) (by cases hd : o.dst <;> simpa [St.fits, hd] using b3) (v := .sref l m'.toNat) (x := .slice (some ⟨w.heap.size, 0, none⟩) m'.toNat m'.toNat) (by
              simp only [rep]
              exact ⟨rfl, _, by simp only [Env.putRow]; exact updf_same _ _ _, by simp, fun _ => rfl⟩)
            simp only [updf_updf] at hfin
            exact ⟨⟨_, rfl⟩, hfin⟩
      · simp at h
    · simp at h
  · simp at h

def adCopy (P : Program) (st : St) (o : Oper) : Option (VC × St) := match o.op with
  | .call { callee := .builtin .copy, args, argTypes } => match args.toList, argTypes.toList with
    | [x, y], [t, t'] => match telem P t, ev st x, ev st y with
      | some e, .sref l m, .own l1 k _ => match tsize P e, st.ob l, st.ob l1 with
        | some n, some (.row e' sz rows true), some (.box _ cells) => match toImmL st (cells.take (Nat.min k m)) with
          | some (c1, cs) => bif Nat.beq n 1 && Nat.beq sz 1 && Nat.blt 0 m && Nat.ble k cells.length && st.fits o.dst && Nat.beq cs.length (Nat.min k m) && cs.all one then
              some (some (holds c1 ∧ m = rows.length), { st with ob := updf st.ob l (some (.row e' sz (cs.map (fun c => [c]) ++ rows.drop (Nat.min k m)) true)) }.set o.dst (.lit (.int .i64 (Nat.min k m : Nat)))) else none
          | none => none
        | _, _, _ => none
      | _, _, _ => none
    | _, _ => none
  | _ => none

theorem irep_one {I : Nat → Nat → Prop} {w : World} {v : V} {x : Value} (h : irep I w v x) : x.oneCell' = true := by
  cases v <;> simp only [irep] at h
  · rw [h.1]; exact h.2
  · obtain ⟨a, cap, rfl, _⟩ := h; rfl
theorem irepL_one' {I : Nat → Nat → Prop} {w : World} : ∀ {vs : List V} {xs : List Value}, irepL I w vs xs → ∀ x ∈ xs, x.oneCell' = true
  | [], _, h, x, hx => by simp only [irepL] at h; subst h; simp at hx
  | v :: vs, _, h, x, hx => by
    simp only [irepL] at h
    obtain ⟨y, ys, rfl, h1, h2⟩ := h
    rcases List.mem_cons.1 hx with rfl | hx
    · exact irep_one h1
    · exact irepL_one' h2 x hx

theorem flat_map_one (cs : List V) : (cs.map (fun c => [c])).flatten = cs := by
  induction cs with
  | nil => rfl
  | cons c cs ih => simp [ih]
theorem flat_drop_one {rows : List (List V)} (h : ∀ r ∈ rows, r.length = 1) (n : Nat) : (rows.drop n).flatten = rows.flatten.drop n := by
  induction rows generalizing n with
  | nil => simp
  | cons r rows ih =>
    cases n with
    | zero => simp
    | succ n =>
      have h1 := h r (by simp)
      obtain ⟨x, rfl⟩ := List.length_eq_one_iff.1 h1
      simp only [List.drop_succ_cons, List.flatten_cons, List.singleton_append]
      exact ih (fun q hq => h q (by simp [hq])) n

theorem adCopy_step {P : Program} {st st' : St} {o : Oper} {vc : VC} (h : adCopy P st o = some (vc, st')) (hvc : holds vc) : Step P o st st' := by
  rintro Q E0 M0 w0 a w ⟨E, hg, he, hk⟩
  unfold adCopy at h
  split at h
  · rename_i args argTypes hop
    split at h
    · rename_i x y t t' ha hat
      split at h
      · rename_i e l m l1 k q0 hte hx hy
        split at h
        · rename_i n e' sz rows T cells hn ho ho1
          split at h
          · rename_i c1 cs himm
            cases hb : Nat.beq n 1 && Nat.beq sz 1 && Nat.blt 0 m && Nat.ble k cells.length && st.fits o.dst && Nat.beq cs.length (Nat.min k m) && cs.all one with
            | false => simp [hb] at h
            | true =>
              simp only [hb, cond_true, Option.some.injEq, Prod.mk.injEq] at h
              obtain ⟨rfl, rfl⟩ := h
              simp only [Bool.and_eq_true] at hb
              obtain ⟨⟨⟨⟨⟨⟨b1, b2⟩, b3⟩, b4⟩, b5⟩, b6⟩, b7⟩ := hb
              have e1 := Nat.eq_of_beq_eq_true b1; have e2 := Nat.eq_of_beq_eq_true b2; have e3 := blt_lt b3; have e4 := Nat.le_of_ble_eq_true b4; have e6 := Nat.eq_of_beq_eq_true b6
              subst e1; subst e2
              obtain ⟨hc1, h2⟩ := hvc
              have a1 : args = #[x, y] := by rw [← Array.toArray_toList (xs := args), ha]
              have a2 : argTypes = #[t, t'] := by rw [← Array.toArray_toList (xs := argTypes), hat]
              subst a1; subst a2
              have hxv := ev_rep hg x
              rw [hx] at hxv
              obtain ⟨lc, k1, k2, k3, k4⟩ := sref_val hg hxv ho h2
              have hyv := ev_rep hg y
              rw [hy] at hyv
              simp only [rep] at hyv
              obtain ⟨lc1, cap1, f1, f0, f2⟩ := hyv
              obtain ⟨ys, q1, q2, _⟩ := hg.objs.ok l1 _ lc1 ho1 f1
              have hus := toImmL_rep hg himm hc1 (repL_take (Nat.min k m) q2)
              have hul := irepL_length hus
              obtain ⟨_, _, hs3, _⟩ := k2
              have hmin : Nat.min k m ≤ m := Nat.min_le_right _ _
              obtain ⟨g, cap, cur, g1, g2, g3, g4, g5, g6⟩ := write_row hg ho k1 (by omega) (rows' := cs.map (fun c => [c]) ++ rows.drop (Nat.min k m)) (by simp; omega)
                (by intro r hr; rcases List.mem_append.1 hr with hr | hr
                    · obtain ⟨c, _, rfl⟩ := List.mem_map.1 hr; rfl
                    · exact hs3 r (List.mem_of_mem_drop hr)) (off := 0) (us := ys.take (Nat.min k m)) (cs := cs) (by omega) hus (by
                  simp only [splice, List.take_zero, List.nil_append, Nat.zero_add, List.flatten_append]
                  rw [flat_map_one, flat_drop_one hs3, e6])
              have hrun := run_copy_row (P := P) w t t' o.type e g 0 rows.length cap ⟨lc1.blk, 0, none⟩ k cap1 cur e' (ys.take (Nat.min k m)) (telem_eq hte) (by unfold tsize at hn; exact hn) g2 (by rw [← hul, e6, h2]) (by
                intro j v hj
                rw [Addr.add_lit]
                have hj' : ys[j]? = some v := by
                  rw [List.getElem?_take] at hj
                  split at hj
                  · exact hj
                  · simp at hj
                have : j < ys.length := (List.getElem?_eq_some_iff.1 hj').1
                simp [World.cell?, q1]
                exact hj') (by omega) (irepL_one' hus)
              have hlen : (ys.take (Nat.min k m)).length = Nat.min k m := by rw [← hul, e6]
              rw [hlen] at hrun
              have hr : (execOp a.eval o).run P w = .ok (.value (.int .i64 (Nat.min k m : Nat))) (w.setRow g (splice cur.toList 0 (ys.take (Nat.min k m))).toArray) := by
                have e9 : splice cur.toList 0 (ys.take (Nat.min k m)) = cur.toList.take 0 ++ ys.take (Nat.min k m) ++ cur.toList.drop (0 + Nat.min k m) := by rw [splice, hlen]
                rw [e9]
                clear e9
                generalize Nat.min k m = q at hrun ⊢
                simp [execOp, hop, resolve, invoke, builtin, k3, g1, f2]
                rw [show (List.drop (0 + q) cur.toList) = List.drop (0 + q) cur.toList from rfl] at hrun
                simp at hrun
                simp [hrun, goInt]
              unfold Oper.wp; rw [hr]
              exact ⟨⟨_, rfl⟩, Rl.put g4 (he.trans g5) (hk.trans g6) (by cases hd : o.dst <;> simpa [St.fits, hd] using b5) rep_lit⟩
          · simp at h
        · simp at h
      · simp at h
    · simp at h
  · simp at h

theorem cBytes_append (s t : ByteArray) : cBytes (s ++ t) = cBytes s ++ cBytes t := by
  simp [cBytes, ByteArray.data_append]
theorem strCells_flat (s : ByteArray) : (cBytes s).flatten = (Lib.strCells s).map V.lit := by rw [cBytes_flat, Lib.strCells_eq]

def isByteT (P : Program) (e : TypeId) : Bool := match P.info? e with
  | some i => match i.zero with
    | some (.int .u8 0) => Nat.beq i.size 1 && Nat.beq i.bytes 1
    | _ => false
  | none => false
theorem isByteT_get {P : Program} {e : TypeId} (h : isByteT P e = true) : ∃ i, P.info? e = some i ∧ i.zero = some (.int .u8 0) ∧ i.size = 1 ∧ i.bytes = 1 := by
  unfold isByteT at h
  split at h
  · rename_i i hi
    split at h
    · rename_i hz
      simp only [Bool.and_eq_true] at h
      exact ⟨i, hi, hz, Nat.eq_of_beq_eq_true h.1, Nat.eq_of_beq_eq_true h.2⟩
    · simp at h
  · simp at h

/-- A text's bytes, appended. -/
def adAppS (P : Program) (st : St) (o : Oper) : Option (VC × St) := match o.op with
  | .call { callee := .builtin .append, args, argTypes } => match args.toList, argTypes.toList with
    | [x, y], [t, u] => match telem P t, P.underlying u, ev st x, ev st y with
      | some e, some .string, .sref l m, .lit (.string s) => match isByteT P e, st.ob l with
        | true, some (.row e' sz rows true) => bif Nat.beq e e' && Nat.beq sz 1 && st.fits o.dst then
            some (some (m = rows.length ∧ rows.length + s.size ≤ 140737488355328), { st with ob := updf st.ob l (some (.row e' sz (rows ++ cBytes s) true)) }.set o.dst (.sref l (m + s.size))) else none
        | _, _ => none
      | _, _, _, _ => none
    | _, _ => none
  | _ => none

theorem adAppS_step {P : Program} {st st' : St} {o : Oper} {vc : VC} (h : adAppS P st o = some (vc, st')) (hvc : holds vc) : Step P o st st' := by
  rintro Q E0 M0 w0 a w ⟨E, hg, he, hk⟩
  unfold adAppS at h
  split at h
  · rename_i args argTypes hop
    split at h
    · rename_i x y t u ha hat
      split at h
      · rename_i e l m s hte hu hx hy
        split at h
        · rename_i e' sz rows hbt ho
          cases hb : Nat.beq e e' && Nat.beq sz 1 && st.fits o.dst with
          | false => simp [hb] at h
          | true =>
            simp only [hb, cond_true, Option.some.injEq, Prod.mk.injEq] at h
            obtain ⟨rfl, rfl⟩ := h
            simp only [Bool.and_eq_true] at hb
            obtain ⟨⟨b1, b2⟩, b3⟩ := hb
            have e1 := Nat.eq_of_beq_eq_true b1; have e2 := Nat.eq_of_beq_eq_true b2
            subst e1; subst e2
            obtain ⟨h1, h2⟩ := hvc
            have a1 : args = #[x, y] := by rw [← Array.toArray_toList (xs := args), ha]
            have a2 : argTypes = #[t, u] := by rw [← Array.toArray_toList (xs := argTypes), hat]
            subst a1; subst a2
            have hxv := ev_rep hg x
            rw [hx] at hxv
            obtain ⟨lc, k1, k2, k3, k4⟩ := sref_val hg hxv ho h1
            have hyv := ev_rep hg y
            rw [hy] at hyv; simp only [rep] at hyv
            obtain ⟨q1, q2, q3, xs, q4, q5, q6, q7⟩ := k2
            obtain ⟨i, hi, z1, hn, hby⟩ := isByteT_get hbt
            have hrow : ∀ b, lc.row.ownBlock = some b → ∀ o, ¬ E.imm b o := fun b hb o => q6 b hb o (.inl rfl)
            obtain ⟨v', w', p1, p2, p3, p4⟩ := Lib.run_append_own_string (P := P) w 0 t u o.type e i (telem_eq hte) hu hi z1 hn hby lc.row rows.length xs q4 s (by unfold maxLen; omega) h2 (Nat.zero_le _)
            have hblk : (∀ b, v'.ownBlock = some b → lc.row.ownBlock = some b ∨ w.heap.size ≤ b) ∧ (s.size = 0 → v' = lc.row) := by
              rcases q4.2 with ⟨hv, hz0⟩ | ⟨g, cap, cur, hv, _, hg', hnc, hcm, hcs, htk⟩
              · by_cases hs0 : s.size = 0
                · have := p4.2 ⟨hv, hs0⟩
                  exact ⟨fun b hb => by rw [this] at hb; simp [Value.ownBlock] at hb, fun _ => by rw [this, hv]⟩
                · have hr := run_append_nil_string (P := P) w t u o.type e i (.int .u8 0) (telem_eq hte) hu hi z1 s (by omega) (by omega) (by rw [hby]; omega)
                  rw [hv, hr] at p1
                  simp only [Result.ok.injEq] at p1
                  refine ⟨fun b hb => ?_, fun h => absurd h hs0⟩
                  rw [← p1.1] at hb
                  simp only [Value.ownBlock, Option.some.injEq] at hb
                  exact .inr (Nat.le_of_eq hb)
              · by_cases hroom : rows.length + s.size ≤ cap
                · have hr := Lib.run_append_room_string (P := P) w t u o.type e i (telem_eq hte) hu hi hn g rows.length cap cur hg' s hroom (by omega)
                  rw [hv, hr] at p1
                  simp only [Result.ok.injEq] at p1
                  refine ⟨fun b hb => ?_, fun h => ?_⟩
                  · rw [← p1.1] at hb
                    left; rw [hv]; exact hb
                  · rw [← p1.1, hv, h]; rfl
                · have hxl : xs.length = rows.length := by have := q4.1; omega
                  have hr := Lib.run_append_grow_string (P := P) w t u o.type e i (.int .u8 0) (telem_eq hte) hu hi z1 ⟨g, 0, none⟩ rows.length cap xs (by rw [hn]; omega) (q4.cells (g := g) (by rw [hv]; rfl)) s (by omega) (by omega) (by rw [hby]; exact growslice_fits (by omega) (by omega))
                  rw [hv, hr] at p1
                  simp only [Result.ok.injEq] at p1
                  refine ⟨fun b hb => ?_, fun h => by omega⟩
                  rw [← p1.1] at hb
                  simp only [Value.ownBlock, Option.some.injEq] at hb
                  exact .inr (Nat.le_of_eq hb)
            have hr : (execOp a.eval o).run P w = .ok (.value v') w' := by
              simp [execOp, hop, resolve, invoke, builtin, k3, hyv, p1]
            unfold Oper.wp; rw [hr]
            have hI := own_imm hg hrow p3
            have hlen : (rows ++ cBytes s).length = rows.length + s.size := by rw [List.length_append, cBytes_length]
            have hI2 : ImmKept E.imm (E.putRow l ⟨lc.blk, v', (rows ++ cBytes s).length⟩ (!true) ((rows ++ cBytes s).length * 1)).imm w w' := fun b o hb => ⟨.inl hb, (hI b o hb).2⟩
            obtain ⟨r1, r2, r3⟩ := set_row hg ho k1 (v' := v') (xs' := xs ++ Lib.strCells s) (rows' := rows ++ cBytes s) p3 (by simp) (by intro hh; rw [hlen] at hh; exact hblk.2 (by omega)) (by
                intro r hr; rcases List.mem_append.1 hr with hr | hr
                · exact q3 r hr
                · unfold cBytes at hr; obtain ⟨b, _, rfl⟩ := List.mem_map.1 hr; rfl) (by rw [hlen]; exact p2)
              (by
                rw [List.flatten_append]
                refine irepL_append (irepL_mono hI2 _ _ q5) ?_
                rw [strCells_flat]
                exact lits_irepL (Lib.strCells_oneCell s)) hblk.1 (by intro h; simp at h)
            refine ⟨⟨_, rfl⟩, Rl.put r1 (he.trans r2) (hk.trans r3) (by cases hd : o.dst <;> simpa [St.fits, hd] using b3) ?_⟩
            simp only [rep]
            refine ⟨?_, ⟨lc.blk, v', (rows ++ cBytes s).length⟩, by simp only [Env.putRow]; exact updf_same _ _ _, by simp [cBytes_length]; omega, fun _ => rfl⟩
            rcases p2.2 with ⟨hh, _⟩ | ⟨g, cap, cur, hh, _⟩ <;> rw [hh] <;> rfl
        · simp at h
      · simp at h
    · simp at h
  · simp at h

/-- A store into an element of a row of one's own. -/
def adStoreR (P : Program) (st : St) (hv : Option V) (o : Oper) : Option (VC × St) := match o.op with
  | .store T p x => match ev st p, tsize P T, vcells (ev st x), hv with
    | .rp l m sz i r, some n, some cs, some (.agg old) => match st.ob l, toImmL st cs with
      | some (.row e sz' rows true), some (c1, cs') => bif Nat.beq sz sz' && Nat.beq cs.length n && Nat.ble (r + cs.length) sz && cs.all one && st.fits o.dst && Nat.beq old.length sz then
          some (some (holds c1 ∧ m = rows.length ∧ rows[i]? = some old), { st with ob := updf st.ob l (some (.row e sz' (rows.set i (splice old r cs')) true)) }.set o.dst .dead) else none
      | _, _ => none
    | _, _, _, _ => none
  | _ => none

theorem flat_len_take {rows : List (List V)} {sz : Nat} (h : ∀ r ∈ rows, r.length = sz) : ∀ i, i ≤ rows.length → (rows.take i).flatten.length = i * sz := by
  intro i hi
  rw [flatten_len (fun r hr => h r (List.mem_of_mem_take hr)), List.length_take, Nat.min_eq_left hi]
theorem flat_set {rows : List (List V)} {sz : Nat} (h : ∀ r ∈ rows, r.length = sz) {i : Nat} {old : List V} (hi : rows[i]? = some old) (ho : old.length = sz) {r : Nat} {cs : List V} (hr : r + cs.length ≤ sz) :
    (rows.set i (splice old r cs)).flatten = splice rows.flatten (i * sz + r) cs := by
  have hlt : i < rows.length := (List.getElem?_eq_some_iff.1 hi).1
  have hval : rows[i] = old := (List.getElem?_eq_some_iff.1 hi).2
  have e1 : rows = rows.take i ++ old :: rows.drop (i + 1) := by
    rw [← hval, List.getElem_cons_drop, List.take_append_drop]
  have e2 : (rows.set i (splice old r cs)) = rows.take i ++ splice old r cs :: rows.drop (i + 1) := by
    rw [List.set_eq_take_append_cons_drop, if_pos hlt]
  have e3 : rows.flatten = (rows.take i).flatten ++ (old ++ (rows.drop (i + 1)).flatten) := by
    conv => lhs; rw [e1]
    simp
  have e4 := flat_len_take h i (by omega)
  rw [e2, e3]
  simp only [splice, List.flatten_append, List.flatten_cons, List.append_assoc]
  rw [List.take_append, List.drop_append, e4]
  have k1 : (rows.take i).flatten.take (i * sz + r) = (rows.take i).flatten := List.take_of_length_le (by omega)
  have k2 : (rows.take i).flatten.drop (i * sz + r + cs.length) = [] := List.drop_of_length_le (by omega)
  have k3 : i * sz + r - i * sz = r := by omega
  have k4 : i * sz + r + cs.length - i * sz = r + cs.length := by omega
  rw [k1, k2, k3, k4, List.take_append, List.drop_append]
  have k5 : r - old.length = 0 := by omega
  have k6 : r + cs.length - old.length = 0 := by omega
  simp [k5, k6]

theorem adStoreR_step {P : Program} {st st' : St} {hv : Option V} {o : Oper} {vc : VC} (h : adStoreR P st hv o = some (vc, st')) (hvc : holds vc) : Step P o st st' := by
  rintro Q E0 M0 w0 a w ⟨E, hg, he, hk⟩
  unfold adStoreR at h
  split at h
  · rename_i T p x hop
    split at h
    · rename_i l m sz i r n cs old hp hn hcs
      split at h
      · rename_i e sz' rows c1 cs' ho himm
        cases hb : Nat.beq sz sz' && Nat.beq cs.length n && Nat.ble (r + cs.length) sz && cs.all one && st.fits o.dst && Nat.beq old.length sz with
        | false => simp [hb] at h
        | true =>
          simp only [hb, cond_true, Option.some.injEq, Prod.mk.injEq] at h
          obtain ⟨rfl, rfl⟩ := h
          simp only [Bool.and_eq_true] at hb
          obtain ⟨⟨⟨⟨⟨b1, b2⟩, b3⟩, b4⟩, b5⟩, b6⟩ := hb
          have e1 := Nat.eq_of_beq_eq_true b1; have e2 := Nat.eq_of_beq_eq_true b2; have e3 := Nat.le_of_ble_eq_true b3; have e6 := Nat.eq_of_beq_eq_true b6
          subst e1
          obtain ⟨hc1, h2, h3⟩ := hvc
          have hlt : i < rows.length := (List.getElem?_eq_some_iff.1 h3).1
          have hpv := ev_rep hg p
          rw [hp] at hpv
          simp only [rep] at hpv
          obtain ⟨b, oo, hpe, lc, k1, k2, k3⟩ := hpv
          have hok := hg.objs.ok l _ lc ho k1
          have hs3 : ∀ r ∈ rows, r.length = sz := hok.2.2.1
          have hll : lc.len = rows.length := hok.1
          obtain ⟨k4, cap0, k5⟩ := k3 (by omega)
          obtain ⟨us, u1, u2⟩ := vcells_rep hcs (ev_rep hg x)
          have hone := all_one_rep b4 u2
          have hus := toImmL_rep hg himm hc1 u2
          have hul := repL_length u2
          have hcl := toImmL_length himm
          have hmul : i * sz + sz ≤ rows.length * sz := by
            rw [← Nat.succ_mul]; exact Nat.mul_le_mul_right _ hlt
          obtain ⟨g, cap, cur, g1, g2, g3, g4, g5, g6⟩ := write_row hg ho k1 (by omega) (rows' := rows.set i (splice old r cs')) (by simp) (by
              intro q hq
              rcases List.mem_or_eq_of_mem_set hq with hq | hq
              · exact hs3 q hq
              · rw [hq]; simp only [splice, List.length_append, List.length_take, List.length_drop]; omega) (off := i * sz + r) (us := us) (cs := cs') (by omega) hus
            (flat_set hs3 h3 e6 (by omega))
          rw [k5] at g1
          simp only [Value.slice.injEq, Option.some.injEq, Addr.mk.injEq] at g1
          obtain ⟨⟨rfl, _⟩, _, rfl⟩ := g1
          have hst := run_storeCells_at (P := P) b (i * sz + r) e us 0 cur w g2 (by simp; omega) hone
          have hr : (execOp a.eval o).run P w = .ok .skip (w.setRow b (splice cur.toList (i * sz + r) us).toArray) := by
            have hsz : us.length = n := by omega
            simp only [Nat.add_zero] at hst
            have hst' : (storeCells ⟨b, oo, none⟩ us).run P w = .ok () (w.setRow b (splice cur.toList (i * sz + r) us).toArray) := by rw [k4]; simpa [splice] using hst
            simp [execOp, hop, Instr.storeAt, hpe, Instr.sureAddr, storeVar, u1, tsize_run hn, hsz, hst']
          unfold Oper.wp; rw [hr]
          exact ⟨⟨_, rfl⟩, Rl.put g4 (he.trans g5) (hk.trans g6) (by cases hd : o.dst <;> simpa [St.fits, hd] using b5) (by simp only [rep])⟩
      · simp at h
    · simp at h
  · simp at h

def orR {α : Type} (x y : Option α) : Option α := match x with
  | some a => some a
  | none => y
theorem orR_some {α : Type} {x y : Option α} {a : α} (h : orR x y = some a) : x = some a ∨ y = some a := by
  unfold orR at h
  cases x with
  | none => exact .inr h
  | some b => exact .inl h

/-- All rarer operations. -/
def arare (P : Program) (st : St) (l : Nat) (hv : Option V) (o : Oper) : Option (VC × St) :=
  match rarePure P st hv o.op with
  | some (vc, v) => bif st.fits o.dst then some (vc, st.set o.dst v) else none
  | none => orR (adUStr P st hv o) (orR (adMake P st l o) (orR (adCopy P st o) (orR (adAppS P st o) (adStoreR P st hv o))))

theorem arare_step {P : Program} {st st' : St} {l : Nat} {hv : Option V} {o : Oper} {vc : VC} (h : arare P st l hv o = some (vc, st')) (hvc : holds vc) : Step P o st st' := by
  unfold arare at h
  split at h
  · rename_i vc' v hp
    cases hf : st.fits o.dst with
    | false => simp [hf] at h
    | true =>
      simp only [hf, cond_true, Option.some.injEq, Prod.mk.injEq] at h
      obtain ⟨rfl, rfl⟩ := h
      exact Step.pure hf (fun E a w hg => rarePure_run hp hvc hg)
  · rcases orR_some h with h | h
    · exact adUStr_step h hvc
    rcases orR_some h with h | h
    · exact adMake_step h hvc
    rcases orR_some h with h | h
    · exact adCopy_step h hvc
    rcases orR_some h with h | h
    · exact adAppS_step h hvc
    · exact adStoreR_step h hvc

/-- The object that such an operation changes. -/
def chgR (st : St) (o : Oper) (l : Nat) : List Nat := match o.op with
  | .call { callee := .builtin .unsafeString, args, .. } => match args.toList with
    | x :: _ => match ev st x with
      | .rp l0 _ _ _ _ => [l0]
      | _ => []
    | _ => []
  | .makeSlice _ _ _ => [l]
  | .call { callee := .builtin .copy, args, .. } => match args.toList with
    | x :: _ => match ev st x with
      | .sref l0 _ => [l0]
      | _ => []
    | _ => []
  | .call { callee := .builtin .append, args, .. } => match args.toList with
    | x :: _ => match ev st x with
      | .sref l0 _ => [l0]
      | _ => []
    | _ => []
  | .store _ p _ => match ev st p with
    | .rp l0 _ _ _ _ => [l0]
    | _ => []
  | _ => []

theorem updfN {α : Type} {f : Nat → α} {i j : Nat} {v : α} (h : j ∉ [i]) : updf f i v j = f j := updf_other _ _ (by simpa using h)
theorem set_obN (st : St) (d : Option Nat) (v : V) : (st.set d v).ob = st.ob := by cases d <;> rfl

theorem adUStr_chg {P : Program} {st st' : St} {l : Nat} {hv : Option V} {o : Oper} {vc : VC} (h : adUStr P st hv o = some (vc, st')) (k : Nat) (hk : k ∉ chgR st o l) : st'.ob k = st.ob k := by
  unfold adUStr at h
  split at h
  · rename_i args argTypes hop
    simp only [chgR, hop] at hk
    split at h
    · rename_i x y pt it s ha hat
      simp only [ha] at hk
      split at h
      · rename_i e' l0 n sz i r m hu hx hy
        simp only [hx] at hk
        split at h
        · generalize hbb : (_ && _ && _ && _ && _ && _ && _) = bb at h
          cases bb with
          | false => simp at h
          | true =>
            simp only [cond_true, Option.some.injEq, Prod.mk.injEq] at h
            rw [← h.2, set_obN]; exact updfN hk
        · simp at h
      · simp at h
    · simp at h
  · simp at h

theorem adStoreR_chg {P : Program} {st st' : St} {l : Nat} {hv : Option V} {o : Oper} {vc : VC} (h : adStoreR P st hv o = some (vc, st')) (k : Nat) (hk : k ∉ chgR st o l) : st'.ob k = st.ob k := by
  unfold adStoreR at h
  split at h
  · rename_i T p x hop
    simp only [chgR, hop] at hk
    split at h
    · rename_i l0 m sz i r n cs old hp hn hcs
      simp only [hp] at hk
      split at h
      · generalize hbb : (_ && _ && _ && _ && _ && _) = bb at h
        cases bb with
        | false => simp at h
        | true =>
          simp only [cond_true, Option.some.injEq, Prod.mk.injEq] at h
          rw [← h.2, set_obN]; exact updfN hk
      · simp at h
    · simp at h
  · simp at h

theorem arare_chg {P : Program} {st st' : St} {l : Nat} {hv : Option V} {o : Oper} {vc : VC} (h : arare P st l hv o = some (vc, st')) (k : Nat) (hk : k ∉ chgR st o l) : st'.ob k = st.ob k := by
  unfold arare at h
  split at h
  · rename_i vc' v hp
    cases hf : st.fits o.dst with
    | false => simp [hf] at h
    | true =>
      simp only [hf, cond_true, Option.some.injEq, Prod.mk.injEq] at h
      rw [← h.2, set_obN]
  · rcases orR_some h with h | h
    · exact adUStr_chg h k hk
    rcases orR_some h with h | h
    · unfold adMake at h
      split at h
      · rename_i t n c hop
        simp only [chgR, hop] at hk
        split at h
        · split at h
          · generalize hbb : (_ && _ && _) = bb at h
            cases bb with
            | false => simp at h
            | true =>
              simp only [cond_true, Option.some.injEq, Prod.mk.injEq] at h
              rw [← h.2, set_obN]; exact updfN hk
          · simp at h
        · simp at h
      · simp at h
    rcases orR_some h with h | h
    · unfold adCopy at h
      split at h
      · rename_i args argTypes hop
        simp only [chgR, hop] at hk
        split at h
        · rename_i x y t t' ha hat
          simp only [ha] at hk
          split at h
          · rename_i e l0 m l1 kk q0 hte hx hy
            simp only [hx] at hk
            split at h
            · split at h
              · generalize hbb : (_ && _ && _ && _ && _ && _ && _) = bb at h
                cases bb with
                | false => simp at h
                | true =>
                  simp only [cond_true, Option.some.injEq, Prod.mk.injEq] at h
                  rw [← h.2, set_obN]; exact updfN hk
              · simp at h
            · simp at h
          · simp at h
        · simp at h
      · simp at h
    rcases orR_some h with h | h
    · unfold adAppS at h
      split at h
      · rename_i args argTypes hop
        simp only [chgR, hop] at hk
        split at h
        · rename_i x y t t' ha hat
          simp only [ha] at hk
          split at h
          · rename_i e l0 m s hte hu hx hy
            simp only [hx] at hk
            split at h
            · generalize hbb : (_ && _ && _) = bb at h
              cases bb with
              | false => simp at h
              | true =>
                simp only [cond_true, Option.some.injEq, Prod.mk.injEq] at h
                rw [← h.2, set_obN]; exact updfN hk
            · simp at h
          · simp at h
        · simp at h
      · simp at h
    · exact adStoreR_chg h k hk

end Go.Proofs.Fw
