import Derived.Test.YtnjcokelpolpcaaGreatFwX
import Derived.OpenShut
import Derived.Deep.Slices
/- From a reading of the arguments to what a contract asks; and back, when the call is over. -/
set_option linter.unusedVariables false
set_option linter.unusedSimpArgs false
namespace Go.Proofs.Fw
open Go Go.RowKit

/-- All that is there when the call begins stays as it is. -/
def E0 (W : World) : Env := ⟨fun _ => none, fun b _ => b < W.heap.size⟩
theorem E0_real (W : World) : RealO (E0 W) (ofL []) W := by
  refine ⟨fun l => ?_, fun l o lc h => ?_, fun l l' o o' lc lc' b _ h => ?_, fun b o h => h⟩
  · simp [E0, ofL]
  · simp [ofL] at h
  · simp [ofL] at h
theorem Ct.enter {P : Program} {c : Ct} (h : c.Ok P) {v : Value} (ho : c.obs = []) (hout : c.out = .ret (.lit v)) {W : World} {vals : List Value} (hr : repL (E0 W) W c.args vals) :
    Calls P c.f vals.toArray W fun e W' => e = .returned v ∧ Below W.heap.size W W' := by
  have h1 := h (E0 W) W vals (by rw [ho]; exact E0_real W) hr
  refine h1.mono fun e w' ⟨out, obs', E', ⟨g1, g2⟩, _, g3, _, g4, _⟩ => ?_
  rw [hout] at g1; subst g1
  obtain ⟨x, rfl, hx⟩ := g3
  simp only [rep] at hx; subst hx
  refine ⟨rfl, g4.os, g4.tape, g4.output, g4.size, fun k hk => g4.blk k hk ?_⟩
  rintro ⟨l, lc, o, h2, _⟩
  simp [E0] at h2

/-! ### how much a reading holds -/
mutual
def dB {H : Type} : DataW H → Nat
  | .lit (.string bytes) => bytes.length + 1
  | .lit _ => 1
  | .nil => 1
  | .ptr d => dB d + 1
  | .slice elems spare => dBs elems + dBs spare + 1
  | .agg parts => dBs parts + 1
  | .iface _ d => dB d + 1
  | .map entries => dBe entries + 1
  | .held _ => 1
def dBs {H : Type} : List (DataW H) → Nat
  | [] => 0
  | d :: r => dB d + dBs r
def dBe {H : Type} : List (Lit × DataW H) → Nat
  | [] => 0
  | x :: r => dBp x + dBe r
def dBp {H : Type} : Lit × DataW H → Nat
  | (.string bytes, d) => bytes.length + dB d + 1
  | (_, d) => dB d + 1
end

def Imm (W : World) : Nat → Nat → Prop := fun b _ => b < W.heap.size
/-- What reads at type T stands for an x: its cells are c x, and it holds no more than was read. -/
def Opens (P : Program) (T : Nat) {τ : Type} (c : τ → List V) (b : τ → Nat) : Prop :=
  ∀ {H : Type} (enc : TypeId × Value → H) (W : World) (base : Nat) (spare : Nat → Bool) (held : Bool) (fuel : Nat) (cs : List Value) (y : DataW H × List MemPlace),
    DataW.trod enc P W base spare held fuel T cs = some y → ∃ x : τ, irepL (Imm W) W (c x) cs ∧ b x ≤ dB y.1

theorem opens_bool {P : Program} {T : Nat} (ht : P.underlying T = some .bool) : Opens P T (fun x : Bool => [V.lit (.bool x)]) (fun _ => 1) := by
  intro H enc W base spare held fuel cs y h
  obtain ⟨b, rfl, rfl⟩ := DataW.trod_bool ht h
  exact ⟨b, by exact ⟨_, _, rfl, ⟨rfl, rfl⟩, rfl⟩, by simp [dB]⟩
theorem opens_str {P : Program} {T : Nat} (ht : P.underlying T = some .string) : Opens P T (fun x : ByteArray => [V.lit (.string x)]) (fun x => x.size + 1) := by
  intro H enc W base spare held fuel cs y h
  obtain ⟨s, rfl, rfl, _⟩ := DataW.trod_string ht h
  exact ⟨s, ⟨_, _, rfl, ⟨rfl, rfl⟩, rfl⟩, by show s.size + 1 ≤ s.data.toList.length + 1; rw [Array.length_toList]; exact Nat.le_refl _⟩
theorem opens_int {P : Program} {T : Nat} {k : IntKind} (ht : P.underlying T = some (.int k)) : Opens P T (fun x : Int => [V.lit (.int k x)]) (fun _ => 1) := by
  intro H enc W base spare held fuel cs y h
  obtain ⟨n, rfl, rfl, _⟩ := DataW.trod_int ht h
  exact ⟨n, by exact ⟨_, _, rfl, ⟨rfl, rfl⟩, rfl⟩, by simp [dB]⟩
theorem opens_u64 {P : Program} {T : Nat} (ht : P.underlying T = some (.int .u64)) : Opens P T (fun x : UInt64 => [V.lit (.int .u64 (x.toNat : Int))]) (fun _ => 1) := by
  intro H enc W base spare held fuel cs y h
  obtain ⟨n, rfl, rfl, hw⟩ := DataW.trod_int ht h
  have := bounds_u64 hw
  refine ⟨UInt64.ofNat n.toNat, ?_, by simp [dB]⟩
  have e : ((UInt64.ofNat n.toNat).toNat : Int) = n := by rw [UInt64.toNat_ofNat']; omega
  show irepL (Imm W) W [V.lit (.int .u64 ((UInt64.ofNat n.toNat).toNat : Int))] _
  rw [e]; exact ⟨_, _, rfl, ⟨rfl, rfl⟩, rfl⟩

def sumB {τ : Type} (b : τ → Nat) : List τ → Nat
  | [] => 0
  | x :: l => b x + sumB b l
theorem cells_icells {W : World} {b o : Nat} : ∀ {vs : List V} {cs : List Value} {k : Nat}, (∀ i, i < cs.length → W.cell? ⟨b, o + k + i, none⟩ = some (cs.getD i undef)) → irepL (Imm W) W vs cs → icells (Imm W) W b (o + k) vs
  | [], _, _, _, _ => by simp only [icells]
  | v :: vs, cs, k, hc, h => by
    simp only [irepL] at h
    obtain ⟨y, ys, rfl, h1, h2⟩ := h
    simp only [icells]
    have h0 := hc 0 (by simp)
    simp at h0
    refine ⟨⟨y, h0, ?_, h1⟩, ?_⟩
    · unfold World.cell? at h0
      unfold Imm
      cases hh : W.heap[b]? with
      | none => simp [hh] at h0
      | some o' => exact (Array.getElem?_eq_some_iff.1 hh).1
    · refine cells_icells (k := k + 1) (cs := ys) (fun i hi => ?_) h2
      have := hc (i + 1) (by simp; omega)
      simpa [Nat.add_assoc, Nat.add_comm 1 i, Nat.add_left_comm] using this
theorem cell_spot {W : World} {a : Addr} {v : Value} (h : W.cell? a = some v) : a.spot = none := by
  unfold World.cell? at h
  split at h
  · split at h
    · simp at h
    · rename_i g; simpa using g
  · simp at h
theorem add_none {b o n : Nat} : (Addr.add ⟨b, o, none⟩ n) = ⟨b, o + n, none⟩ := by
  unfold Addr.add; split
  · subst n; simp
  · rfl
theorem rows_of {P : Program} {W : World} {T : Nat} {τ : Type} {c : τ → List V} {bb : τ → Nat} (ho : Opens P T c bb) (hs : ∀ x, (c x).length = P.cellsOf T) {H : Type} {enc : TypeId × Value → H} {base : Nat} {spare : Nat → Bool} {held : Bool} {n : Nat} {b o : Nat} {D : Nat → DataW H} {Pl : Nat → List MemPlace} :
    ∀ (m k : Nat), (∀ i, k ≤ i → i < k + m → ∃ cs', W.cells? base (Addr.add ⟨b, o, none⟩ (i * P.cellsOf T)) (P.cellsOf T) = some cs' ∧ DataW.trod enc P W base spare held n T cs' = some (D i, Pl i)) →
    ∃ l : List τ, l.length = m ∧ irows (Imm W) W b (o + k * P.cellsOf T) (P.cellsOf T) (l.map c) ∧ sumB bb l ≤ dBs ((List.range' k m).map D)
  | 0, k, _ => ⟨[], rfl, by simp only [List.map_nil, irows], by simp [sumB]⟩
  | m + 1, k, h => by
    obtain ⟨cs', h1, h2⟩ := h k (Nat.le_refl _) (by omega)
    obtain ⟨_, hl, hc⟩ := World.cells?_some h1
    obtain ⟨x, h3, h4⟩ := ho enc W base spare held n cs' _ h2
    obtain ⟨l, h5, h6, h7⟩ := rows_of ho hs m (k + 1) (fun i hi hi2 => h i (by omega) (by omega))
    refine ⟨x :: l, by simp [h5], ?_, ?_⟩
    · simp only [List.map_cons, irows]
      refine ⟨hs x, ?_, by rw [Nat.add_mul, Nat.one_mul, ← Nat.add_assoc] at h6; exact h6⟩
      refine cells_icells (cs := cs') (fun i hi => ?_) h3
      have := hc i (by omega)
      rw [add_none, add_none] at this
      rw [this, List.getD_eq_getElem?_getD, List.getElem?_eq_getElem hi]; rfl
    · simp only [sumB, List.range'_succ, List.map_cons, dBs]; simp only at h4; omega
theorem dBs_map {H : Type} (f : Nat → DataW H) (m : Nat) : dBs ((List.range m).map f) = dBs ((List.range' 0 m).map f) := by rw [List.range_eq_range']
theorem opens_slice {P : Program} {T e : Nat} {τ : Type} {c : τ → List V} {bb : τ → Nat} (sz : Nat) (ht : P.underlying T = some (.slice e)) (hz : P.cellsOf e = sz) (h0 : Nat.blt 0 sz = true) (ho : Opens P e c bb) (hs : ∀ x, (c x).length = sz) :
    Opens P T (fun l : List τ => [V.sl sz (l.map c)]) (fun l => sumB bb l + 1) := by
  subst hz
  intro H enc W base spare held fuel cs y h
  have h0' : 0 < P.cellsOf e := by simpa [Nat.blt, Nat.lt_iff_add_one_le] using h0
  rcases Go.Deep.open_slice ht h with ⟨rfl, rfl⟩ | ⟨a, len, cap, m, n, D, Pl, rfl, hb, hl, hm, hmm, rfl, hx⟩
  · refine ⟨[], ⟨_, _, rfl, ?_, rfl⟩, by simp [sumB, dB]⟩
    simp only [irep]
    exact ⟨none, 0, rfl, ⟨by simp, by simp⟩, .inl rfl⟩
  · have hle : len ≤ m := by rw [hmm]; split <;> omega
    obtain ⟨b, o, sp⟩ := a
    have hsp : len ≠ 0 → sp = none := by
      intro hn
      obtain ⟨cs', h1, _⟩ := hx 0 (by omega)
      obtain ⟨_, h2, h3⟩ := World.cells?_some h1
      have h4 := h3 0 h0'
      rw [show cs'[0]? = some (cs'[0]'(by omega)) from List.getElem?_eq_getElem _] at h4
      have := cell_spot h4
      simpa [Addr.add] using this
    by_cases hn : len = 0
    · subst hn
      refine ⟨[], ⟨_, _, rfl, ?_, rfl⟩, by simp [sumB, dB]⟩
      simp only [irep]
      exact ⟨_, cap, rfl, ⟨by simp, hm⟩, .inl rfl⟩
    · have e1 := hsp hn; subst e1
      obtain ⟨l, h5, h6, h7⟩ := rows_of ho hs (D := D) (Pl := Pl) len 0 (fun i _ hi => hx i (by omega))
      refine ⟨l, ⟨_, _, rfl, ?_, rfl⟩, ?_⟩
      · simp only [irep]
        refine ⟨_, cap, by rw [List.length_map, h5], ⟨by rw [List.length_map]; omega, hm⟩, .inr ⟨b, o, rfl, ?_⟩⟩
        simpa using h6
      · simp only [dB, dBs_map]; omega
theorem chain {W : World} {a b : List V} {cs : List Value} {o n : Nat} (h1 : irepL (Imm W) W a ((cs.drop o).take n)) (h2 : irepL (Imm W) W b (cs.drop (o + n))) : irepL (Imm W) W (a ++ b) (cs.drop o) := by
  have := irepL_append h1 h2
  rwa [← List.drop_drop, List.take_append_drop] at this
theorem chain_end {W : World} {cs : List Value} {o : Nat} (h : cs.length = o) : irepL (Imm W) W [] (cs.drop o) := by
  simp [irepL, ← h]
/-- An argument of one cell, or a structure by value. -/
theorem Opens.arg {P : Program} {T : Nat} {τ : Type} {c : τ → List V} {b : τ → Nat} (ho : Opens P T c b) {fs : Array Field} (ht : P.underlying T = some (.struct fs)) {H : Type} {enc : TypeId × Value → H} {W : World} {r : Reach} {b0 base : Nat} {spare : Nat → Bool} {held : Bool} {v : Value} {d : DataW H} {p : List MemPlace}
    (hv : Value.okWide P W r b0 T v) (h : DataW.Trod enc P W base spare held T v d p) : ∃ x : τ, rep (E0 W) W (.agg (c x)) v ∧ b x ≤ dB d := by
  obtain ⟨cs, rfl, _⟩ := Go.WideShapes.okWide_struct ht hv
  obtain ⟨fuel, hf⟩ := h
  obtain ⟨x, h1, h2⟩ := ho enc W base spare held fuel _ _ hf
  refine ⟨x, ?_, h2⟩
  simp only [rep]
  simp only [Value.cells] at h1
  exact ⟨cs.toList, by simp, irepL_repL (E := E0 W) h1⟩
end Go.Proofs.Fw
