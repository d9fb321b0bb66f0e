/- What reads at the types of the program stands for their Lean words. By a program of mine (wip/gen). -/
import Derived.Test.YtnjcokelpolpcaaGreatFwY
import Derived.Test.YtnjcokelpolpcaaGreatFwM
import Derived.Test.YtnjcokelpolpcaaGreatProg
set_option linter.unusedVariables false
set_option linter.unusedSimpArgs false
namespace Go.Proofs.Fw
open Go Go.RowKit M
set_option maxRecDepth 100000
def b24 (x : M.Tx) : Nat := (fun _ => 1) x.Age + (fun _ => 1) x.Id + 1
theorem opens24 : Opens Tryz.prog 24 cTx b24 := by
  intro H enc W base spare held fuel cs y h
  obtain ⟨xs, n, _, rfl, hl, hlen, hf⟩ := DataW.trod_struct Tryz.underlying24 h
  match xs, hlen with
  | [y0, y1], _ =>
    obtain ⟨x0, r0, e0⟩ := (opens_u64 Tryz.underlying22) enc W base spare held n _ _ (hf 0 _ rfl)
    obtain ⟨x1, r1, e1⟩ := (opens_u64 Tryz.underlying22) enc W base spare held n _ _ (hf 1 _ rfl)
    refine ⟨⟨x0, x1⟩, (chain r0 (chain r1 (chain_end (hl.trans (by kernel_rfl))))), ?_⟩
    simp only [List.map_cons, List.map_nil, dB, dBs, b24] at *; omega
def b90 (x : M.Put) : Nat := (fun s => s.size + 1) x.Key + (fun s => s.size + 1) x.Val + (fun _ => 1) x.Gone + 1
theorem opens90 : Opens Tryz.prog 90 cPut b90 := by
  intro H enc W base spare held fuel cs y h
  obtain ⟨xs, n, _, rfl, hl, hlen, hf⟩ := DataW.trod_struct Tryz.underlying90 h
  match xs, hlen with
  | [y0, y1, y2], _ =>
    obtain ⟨x0, r0, e0⟩ := (opens_str Tryz.underlying9) enc W base spare held n _ _ (hf 0 _ rfl)
    obtain ⟨x1, r1, e1⟩ := (opens_str Tryz.underlying9) enc W base spare held n _ _ (hf 1 _ rfl)
    obtain ⟨x2, r2, e2⟩ := (opens_bool Tryz.underlying4) enc W base spare held n _ _ (hf 2 _ rfl)
    refine ⟨⟨x0, x1, x2⟩, (chain r0 (chain r1 (chain r2 (chain_end (hl.trans (by kernel_rfl)))))), ?_⟩
    simp only [List.map_cons, List.map_nil, dB, dBs, b90] at *; omega
def b28 (x : M.Order) : Nat := (fun _ => 1) x.Kind + b24 x.T + (fun s => s.size + 1) x.Key + (fun l => sumB b90 l + 1) x.Puts + (fun _ => 1) x.Commit + (fun l => sumB (fun _ => 1) l + 1) x.Parts + 1
theorem opens28 : Opens Tryz.prog 28 cOrder b28 := by
  intro H enc W base spare held fuel cs y h
  obtain ⟨xs, n, _, rfl, hl, hlen, hf⟩ := DataW.trod_struct Tryz.underlying28 h
  match xs, hlen with
  | [y0, y1, y2, y3, y4, y5], _ =>
    obtain ⟨x0, r0, e0⟩ := (opens_int Tryz.underlying3) enc W base spare held n _ _ (hf 0 _ rfl)
    obtain ⟨x1, r1, e1⟩ := opens24 enc W base spare held n _ _ (hf 1 _ rfl)
    obtain ⟨x2, r2, e2⟩ := (opens_str Tryz.underlying9) enc W base spare held n _ _ (hf 2 _ rfl)
    obtain ⟨x3, r3, e3⟩ := (opens_slice 3 Tryz.underlying25 (by kernel_rfl) rfl opens90 (fun _ => rfl)) enc W base spare held n _ _ (hf 3 _ rfl)
    obtain ⟨x4, r4, e4⟩ := (opens_bool Tryz.underlying4) enc W base spare held n _ _ (hf 4 _ rfl)
    obtain ⟨x5, r5, e5⟩ := (opens_slice 1 Tryz.underlying26 (by kernel_rfl) rfl (opens_u64 Tryz.underlying22) (fun _ => rfl)) enc W base spare held n _ _ (hf 5 _ rfl)
    refine ⟨⟨x0, x1, x2, x3, x4, x5⟩, (chain r0 (chain r1 (chain r2 (chain r3 (chain r4 (chain r5 (chain_end (hl.trans (by kernel_rfl))))))))), ?_⟩
    simp only [List.map_cons, List.map_nil, dB, dBs, b28] at *; omega
def b30 (x : M.Job) : Nat := (fun _ => 1) x.Client + (fun _ => 1) x.Seq + b28 x.O + 1
theorem opens30 : Opens Tryz.prog 30 cJob b30 := by
  intro H enc W base spare held fuel cs y h
  obtain ⟨xs, n, _, rfl, hl, hlen, hf⟩ := DataW.trod_struct Tryz.underlying30 h
  match xs, hlen with
  | [y0, y1, y2], _ =>
    obtain ⟨x0, r0, e0⟩ := (opens_u64 Tryz.underlying22) enc W base spare held n _ _ (hf 0 _ rfl)
    obtain ⟨x1, r1, e1⟩ := (opens_u64 Tryz.underlying22) enc W base spare held n _ _ (hf 1 _ rfl)
    obtain ⟨x2, r2, e2⟩ := opens28 enc W base spare held n _ _ (hf 2 _ rfl)
    refine ⟨⟨x0, x1, x2⟩, (chain r0 (chain r1 (chain r2 (chain_end (hl.trans (by kernel_rfl)))))), ?_⟩
    simp only [List.map_cons, List.map_nil, dB, dBs, b30] at *; omega
end Go.Proofs.Fw
