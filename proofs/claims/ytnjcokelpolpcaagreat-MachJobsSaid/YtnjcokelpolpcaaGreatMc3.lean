import Derived.Test.YtnjcokelpolpcaaGreatMc1
import Derived.Test.YtnjcokelpolpcaaGreatMc2
/- The law MachJobs, plainly. -/
set_option linter.unusedVariables false
set_option linter.unusedSimpArgs false
set_option maxRecDepth 100000
namespace Go.Proofs.Fw
open Go Go.RowKit M

theorem samePuts_refl (l : List Put) : ref13_SamePuts_r0 l l = true := by
  have h : ref13_SamePuts_c1 l l (ref13_SamePuts_N1 l l) () = false := rnds_end (n := ref13_SamePuts_n1 l l) (s := ()) (fun k hk => by
    simp only [ref13_SamePuts_c1, Bool.and_eq_true, decide_eq_true_eq] at hk; omega)
  have hd : ∀ i, ref13_SamePuts_d2 l l i = false := fun i => by simp [ref13_SamePuts_d2]
  simp only [ref13_SamePuts_c1, hd, Bool.not_false, Bool.and_true] at h
  simp only [ref13_SamePuts_r0, h, decide_true, Bool.not_true, cond_false]
theorem sameNums_refl (l : List UInt64) : ref01_Same_r0 l l = true := by
  have h : ref01_Same_c1 l l (ref01_Same_N1 l l) () = false := rnds_end (n := ref01_Same_n1 l l) (s := ()) (fun k hk => by
    simp only [ref01_Same_c1, Bool.and_eq_true, decide_eq_true_eq] at hk; omega)
  simp only [ref01_Same_c1, decide_true, Bool.not_true, Bool.not_false, Bool.and_true] at h
  simp only [ref01_Same_r0, h, decide_true, Bool.not_true, cond_false]
theorem sameJob_refl (j : Job) : ref15_SameJob_d5 j j = true := by
  simp [ref15_SameJob_d5, ref15_SameJob_d4, ref15_SameJob_d3, ref15_SameJob_d2, ref15_SameJob_d1, samePuts_refl, sameNums_refl]
theorem mach_job_r0 (s : ByteArray) : mach_TakeJob_r0 s = bif mach_TakeJob_1_ok s then mach_TakeJob_1_r0 s else ⟨0, 0, ⟨0, ⟨0, 0⟩, ⟨#[]⟩, [], false, []⟩⟩ := by
  simp only [mach_TakeJob_r0, mach_TakeJob_d1, mach_TakeJob_d2, mach_TakeJob_d3, mach_TakeJob_d4, mach_TakeJob_d5]
  cases mach_TakeJob_1_ok s with
  | false => kernel_rfl
  | true => generalize mach_TakeJob_1_r0 s = j; kernel_rfl
theorem takeJob_same (s : ByteArray) : mach_TakeJob_r0 s = ref15_TakeJob_r0 s ∧ (bif mach_TakeJob_1_ok s then 0 else 3) = ref15_TakeJob_r1 s := by
  have h := mach_job_p s
  rw [mach_job_r0]
  cases e : mach_TakeJob_1_ok s with
  | true => rw [e] at h; obtain ⟨h1, h2⟩ := (ref_job_p s).1 _ h; rw [h1, h2]; exact ⟨rfl, rfl⟩
  | false => rw [e] at h; obtain ⟨h1, h2⟩ := (ref_job_p s).2 h; rw [h1, h2]; exact ⟨rfl, rfl⟩
theorem job_same (j : Job) : ref15_Job_r0 j = (bif mayJob j then jobB j else ⟨#[]⟩) ∧ ref15_Job_r1 j = (bif mayJob j then 0 else 1) := by
  simp only [ref15_Job_r0, ref15_Job_r1, ref15_Job_d1, jobB]
  cases mayJob j with
  | false => exact ⟨rfl, rfl⟩
  | true =>
    refine ⟨?_, rfl⟩
    simp only [Bool.not_true, cond_false, cond_true, numsB, catB, ByteArray.append_assoc, emp_app, app_emp]
    rfl
theorem jobs_true (a0 : M.Job) (a1 : ByteArray) : law15_MachJobs_d5 a0 a1 = true := by
  simp only [law15_MachJobs_d5, law15_MachJobs_d4, law15_MachJobs_d3, (job_same a0).1, (job_same a0).2, (takeJob_same a1).2, (takeJob_same a1).1, sameJob_refl, decide_true, Bool.and_true]
theorem small_le (m : UInt64) (hm : m.toNat ≤ 4096) (a : Reader) : ref15_Reader_small_r0 a m ≤ 4096 := by
  simp only [ref15_Reader_small_r0]
  cases h : ref15_Reader_small_d1 a m with
  | true => simp
  | false =>
    simp only [ref15_Reader_small_d1, Bool.or_eq_false_iff, decide_eq_false_iff_not] at h
    rw [cond_false, i64_small _ (by omega)]; omega
theorem numbers_pre (a : Reader) : ref15_Reader_numbers_pre a := by
  have hb : ∀ i, i ≤ ref15_Reader_numbers_N1 a → i ≤ 4096 ∧ ((ref15_Reader_numbers_S1 a i).a2).length = i := by
    intro i hi
    have h2 : ref15_Reader_numbers_N1 a ≤ _ := rnds_le
    have h3 := small_le (UInt64.ofNat (8 : Int).toNat) (by decide) a
    refine ⟨by omega, ?_⟩
    have h4 := itr_len (n := ref15_Reader_numbers_n1 a) (f := fun s => s.a2) (fun i s => app1_len _ _) ⟨ref15_Reader_num_o0_0 a, ref15_Reader_small_d1 a (UInt64.ofNat (8 : Int).toNat), []⟩ i
    simpa [ref15_Reader_numbers_S1] using h4
  refine ⟨fun i hi _ => ?_, fun i hi _ => ?_⟩
  · have := hb i hi
    simp only [List.length_cons, List.length_nil]; omega
  · have := hb i hi; omega
theorem puts_pre (a : Reader) : ref15_Reader_puts_pre a := by
  have hb : ∀ i, i ≤ ref15_Reader_puts_N1 a → i ≤ 4096 ∧ ((ref15_Reader_puts_S1 a i).a2).length = i := by
    intro i hi
    have h2 : ref15_Reader_puts_N1 a ≤ _ := rnds_le
    have h3 := small_le (UInt64.ofNat (8 : Int).toNat) (by decide) a
    refine ⟨by omega, ?_⟩
    have h4 := itr_len (n := ref15_Reader_puts_n1 a) (f := fun s => s.a2) (fun i s => app1_len _ _) ⟨ref15_Reader_num_o0_0 a, ref15_Reader_small_d1 a (UInt64.ofNat (8 : Int).toNat), []⟩ i
    simpa [ref15_Reader_puts_S1] using h4
  refine ⟨fun i hi _ => ?_, fun i hi _ => ?_⟩
  · have := hb i hi
    simp only [List.length_cons, List.length_nil]; omega
  · have := hb i hi; omega
theorem sameJob_pre (a b : Job) : ref15_SameJob_pre a b := by
  refine ⟨fun i hi h1 h2 => ?_, fun i hi h1 h2 => ?_⟩ <;> simp only [Bool.not_eq_false', decide_eq_true_eq] at h1 h2 <;> omega
theorem job_pre (j : Job) : ref15_Job_pre j := by
  have hs : ∀ h : (!(mayJob j)) = false, (ref15_Job_d1 j ++ listB numB1 j.O.Parts).size ≤ 2000 := fun h => by
    have h' : mayJob j = true := by simpa using h
    have := (job_same j).1
    rw [h'] at this; simp only [ref15_Job_r0, h', Bool.not_true, cond_false, cond_true] at this
    rw [this]; exact jobB_size h'
  refine ⟨fun h => ?_, fun h => ?_, fun h => ?_, fun h => ?_, fun h => ?_, fun h => ?_, fun h => ?_, fun h => ?_, fun h => ?_⟩ <;>
    (have := hs h; simp only [ref15_Job_d1, ByteArray.size_append] at *; omega)
theorem jobs_pre (a0 : M.Job) (a1 : ByteArray) : law15_MachJobs_pre a0 a1 := ⟨job_pre a0, ⟨puts_pre _, numbers_pre _⟩, sameJob_pre _ _⟩
end Go.Proofs.Fw
