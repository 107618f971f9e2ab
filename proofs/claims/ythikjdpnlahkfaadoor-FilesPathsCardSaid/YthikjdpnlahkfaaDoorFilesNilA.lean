/- Every method of files.FS at no tree (nil): EBADF, nothing. No condition. -/
import Derived.Test.YthikjdpnlahkfaaDoorFilesR
namespace Go.Proofs.YthikjdpnlahkfaaDoor
open Go.RowKit

set_option maxRecDepth 100000 in
theorem fget_nil (w : World) (i : Int) : Calls Tryd.prog 40 #[.pointer none, .int .i64 i] w fun e w' => e = .returned (.pointer none) ∧ w = w' := by
  go_enter Tryd.func40, Tryd.ntmps40
  go_wp2
  go_ret
  exact ⟨rfl, rfl⟩
set_option maxRecDepth 100000 in
theorem start_nil (w : World) (dir : Int) (s : ByteArray) : Calls Tryd.prog 57 #[.pointer none, .int .i64 dir, .string s] w fun e w' => e = .returned (.tuple #[.agg #[.pointer none, .slice none 0 0, .bool false], .int .i64 9]) ∧ Fr (fun _ => False) w w' := by
  go_enter Tryd.func57, Tryd.ntmps57
  go_wp2_with fail
  refine (fget_nil _ _).mono ?_
  rintro e w1 ⟨rfl, rfl⟩
  go_wp2_with fail
  go_returns
  exact ⟨rfl, by first | exact Fr.refl _ _ | exact (Fr.refl _ _).alloc _⟩
set_option maxRecDepth 100000 in
theorem fwalk_nil (w : World) (dir : Int) (s : ByteArray) : Calls Tryd.prog 44 #[.pointer none, .int .i64 dir, .string s] w fun e w' => e = .returned (.tuple #[.pointer none, .int .i64 9]) ∧ Fr (fun _ => False) w w' := by
  go_enter Tryd.func44, Tryd.ntmps44
  go_wp2_with fail
  refine (start_nil _ _ _).mono ?_
  rintro e w1 ⟨rfl, hf1⟩
  go_wp2_with fail
  go_returns
  exact ⟨rfl, by first | exact hf1 | exact ((Fr.refl (fun _ => False) w).alloc _).trans hf1 | exact hf1.alloc _ | exact (((Fr.refl (fun _ => False) w).alloc _).trans hf1).alloc _⟩
set_option maxRecDepth 100000 in
theorem Walk_nil (w : World) (dir : Int) (s : ByteArray) : Calls Tryd.prog 24 #[.pointer none, .int .i64 dir, .string s] w fun e w' => e = .returned (.tuple #[.int .i64 0, .int .i64 9]) ∧ Fr (fun _ => False) w w' := by
  go_enter Tryd.func24, Tryd.ntmps24
  go_wp2_with fail
  refine (fwalk_nil _ _ _).mono ?_
  rintro e w1 ⟨rfl, hf1⟩
  go_wp2_with fail
  go_returns
  exact ⟨rfl, by first | exact hf1 | exact ((Fr.refl (fun _ => False) w).alloc _).trans hf1 | exact hf1.alloc _ | exact (((Fr.refl (fun _ => False) w).alloc _).trans hf1).alloc _⟩
set_option maxRecDepth 100000 in
theorem file_nil (w : World) (i : Int) : Calls Tryd.prog 34 #[.pointer none, .int .i64 i] w fun e w' => e = .returned (.tuple #[.pointer none, .int .i64 9]) ∧ w = w' := by
  go_enter Tryd.func34, Tryd.ntmps34
  go_wp2_with fail
  refine (fget_nil _ _).mono ?_
  rintro e w1 ⟨rfl, rfl⟩
  go_wp2_with fail
  go_returns
  exact ⟨rfl, rfl⟩
set_option maxRecDepth 100000 in
theorem Read_nil (w : World) (i a n : Int) : Calls Tryd.prog 13 #[.pointer none, .int .i64 i, .int .i64 a, .int .i64 n] w fun e w' => e = .returned (.tuple #[.string ⟨#[]⟩, .int .i64 9]) ∧ w = w' := by
  go_enter Tryd.func13, Tryd.ntmps13
  go_wp2_with fail
  refine (file_nil _ _).mono ?_
  rintro e w1 ⟨rfl, rfl⟩
  go_wp2_with fail
  go_returns
  exact ⟨rfl, rfl⟩
set_option maxRecDepth 100000 in
theorem Write_nil (w : World) (i a : Int) (s : ByteArray) : Calls Tryd.prog 12 #[.pointer none, .int .i64 i, .int .i64 a, .string s] w fun e w' => e = .returned (.tuple #[.int .i64 0, .int .i64 9]) ∧ w = w' := by
  go_enter Tryd.func12, Tryd.ntmps12
  go_wp2_with fail
  refine (file_nil _ _).mono ?_
  rintro e w1 ⟨rfl, rfl⟩
  go_wp2_with fail
  go_returns
  exact ⟨rfl, rfl⟩
set_option maxRecDepth 100000 in
theorem Truncate_nil (w : World) (i n : Int) : Calls Tryd.prog 14 #[.pointer none, .int .i64 i, .int .i64 n] w fun e w' => e = .returned (.int .i64 9) ∧ w = w' := by
  go_enter Tryd.func14, Tryd.ntmps14
  go_wp2_with fail
  refine (file_nil _ _).mono ?_
  rintro e w1 ⟨rfl, rfl⟩
  go_wp2_with fail
  go_ret
  exact ⟨rfl, rfl⟩
set_option maxRecDepth 100000 in
theorem Chmod_nil (w : World) (i n : Int) : Calls Tryd.prog 37 #[.pointer none, .int .i64 i, .int .i64 n] w fun e w' => e = .returned (.int .i64 9) ∧ w = w' := by
  go_enter Tryd.func37, Tryd.ntmps37
  go_wp2_with fail
  refine (fget_nil _ _).mono ?_
  rintro e w1 ⟨rfl, rfl⟩
  go_wp2_with fail
  go_ret
  exact ⟨rfl, rfl⟩
set_option maxRecDepth 100000 in
theorem Stat_nil (w : World) (i : Int) : Calls Tryd.prog 21 #[.pointer none, .int .i64 i] w fun e w' => e = .returned (.tuple #[.agg #[.int .i64 0, .int .i64 0, .int .i64 0, .int .i64 0, .int .i64 0], .int .i64 9]) ∧ Fr (fun _ => False) w w' := by
  go_enter Tryd.func21, Tryd.ntmps21
  go_wp2_with fail
  refine (fget_nil _ _).mono ?_
  rintro e w1 ⟨rfl, rfl⟩
  go_wp2_with fail
  go_returns
  exact ⟨rfl, by first | exact Fr.refl _ _ | exact (Fr.refl _ _).alloc _⟩
set_option maxRecDepth 100000 in
theorem List_nil (w : World) (i : Int) : Calls Tryd.prog 38 #[.pointer none, .int .i64 i] w fun e w' => e = .returned (.tuple #[.slice none 0 0, .int .i64 9]) ∧ w = w' := by
  go_enter Tryd.func38, Tryd.ntmps38
  go_wp2_with fail
  refine (fget_nil _ _).mono ?_
  rintro e w1 ⟨rfl, rfl⟩
  go_wp2_with fail
  go_returns
  exact ⟨rfl, rfl⟩
set_option maxRecDepth 100000 in
theorem Hold_nil (w : World) (i : Int) : Calls Tryd.prog 20 #[.pointer none, .int .i64 i] w fun e w' => e = .returned (.int .i64 9) ∧ w = w' := by
  go_enter Tryd.func20, Tryd.ntmps20
  go_wp2_with fail
  refine (fget_nil _ _).mono ?_
  rintro e w1 ⟨rfl, rfl⟩
  go_wp2_with fail
  go_ret
  exact ⟨rfl, rfl⟩
set_option maxRecDepth 100000 in
theorem Drop_nil (w : World) (i : Int) : Calls Tryd.prog 22 #[.pointer none, .int .i64 i] w fun e w' => e = .returned (.int .i64 9) ∧ w = w' := by
  go_enter Tryd.func22, Tryd.ntmps22
  go_wp2_with fail
  refine (fget_nil _ _).mono ?_
  rintro e w1 ⟨rfl, rfl⟩
  go_wp2_with fail
  go_ret
  exact ⟨rfl, rfl⟩
set_option maxRecDepth 100000 in
theorem Path_nil (w : World) (i : Int) : Calls Tryd.prog 23 #[.pointer none, .int .i64 i] w fun e w' => e = .returned (.tuple #[.string ⟨#[]⟩, .int .i64 9]) ∧ w = w' := by
  go_enter Tryd.func23, Tryd.ntmps23
  go_wp2_with fail
  refine (fget_nil _ _).mono ?_
  rintro e w1 ⟨rfl, rfl⟩
  go_wp2_with fail
  go_returns
  exact ⟨rfl, rfl⟩
set_option maxRecDepth 100000 in
theorem Bytes_nil (w : World)  : Calls Tryd.prog 15 #[.pointer none] w fun e w' => e = .returned (.int .i64 0) ∧ w = w' := by
  go_enter Tryd.func15, Tryd.ntmps15
  go_wp2
  go_ret
  exact ⟨rfl, rfl⟩
set_option maxRecDepth 100000 in
theorem Count_nil (w : World)  : Calls Tryd.prog 17 #[.pointer none] w fun e w' => e = .returned (.int .i64 0) ∧ w = w' := by
  go_enter Tryd.func17, Tryd.ntmps17
  go_wp2
  go_ret
  exact ⟨rfl, rfl⟩
set_option maxRecDepth 100000 in
theorem May_nil (w : World) (i n : Int) : Calls Tryd.prog 18 #[.pointer none, .int .i64 i, .int .i64 n] w fun e w' => e = .returned (.bool false) ∧ w = w' := by
  go_enter Tryd.func18, Tryd.ntmps18
  go_wp2_with fail
  refine (fget_nil _ _).mono ?_
  rintro e w1 ⟨rfl, rfl⟩
  go_wp2_with fail
  go_ret
  exact ⟨rfl, rfl⟩
def placeNil : Value := .agg #[.pointer none, .string ⟨#[]⟩, .bool false]
set_option maxRecDepth 100000 in
theorem ahead_nil (w : World) (dir : Int) (s : ByteArray) : Calls Tryd.prog 47 #[.pointer none, .int .i64 dir, .string s] w fun e w' => e = .returned (.tuple #[placeNil, .int .i64 9]) ∧ Fr (fun _ => False) w w' := by
  go_enter Tryd.func47, Tryd.ntmps47
  go_wp2_with fail
  refine (start_nil _ _ _).mono ?_
  rintro e w1 ⟨rfl, hf1⟩
  have hf0 : Fr (fun _ => False) w (w.alloc (.cells #[.pointer none, .string ⟨#[]⟩, .bool false] 90 (0, 0))) := (Fr.refl _ _).alloc _
  have hb1 := hf1.get (blk_new w (.cells #[.pointer none, .string ⟨#[]⟩, .bool false] 90 (0, 0))) (fun e => e)
  have hb2 := blk_alloc hb1 (.cells #[.pointer none, .slice none 0 0, .bool false] 106 (0, 0))
  have zz := blk_frozen hb2
  obtain ⟨c0, c1, c2, c90, c91, c92, hfs⟩ := cells3 hb2 (.pointer none) (.string ⟨#[]⟩) (.bool false)
  have hres : Fr (fun _ => False) w _ := ((hf0.trans hf1).alloc (.cells #[.pointer none, .slice none 0 0, .bool false] 106 (0, 0))).trans' hfs (fun i hi e => by omega)
  have hres := hide hres
  go_wp2_with fail
  refine bodyPost_ret (by simp [results, Tryd.results47, go_sem, c90, c91, c92]; try rfl) rfl ?_
  exact ⟨rfl, hres.out⟩

set_option maxRecDepth 100000 in
theorem add_nil (w : World) (dir : Int) (s : ByteArray) (nv : Value) : Calls Tryd.prog 33 #[.pointer none, .int .i64 dir, .string s, nv] w fun e w' => e = .returned (.int .i64 9) ∧ Fr (fun _ => False) w w' := by
  have hmm := @run_makeMap Tryd.prog
  go_enter Tryd.func33, Tryd.ntmps33
  go_wp2_with fail
  refine (ahead_nil _ _ _).mono ?_
  rintro e w1 ⟨rfl, hf1⟩
  unfold placeNil
  go_wp2_with fail
  go_ret
  exact ⟨rfl, by first | exact hf1 | exact hf1.alloc _ | exact ((Fr.refl (fun _ => False) w).alloc _).trans hf1 | exact (((Fr.refl (fun _ => False) w).alloc _).alloc _).trans hf1⟩
set_option maxRecDepth 100000 in
theorem Create_nil (w : World) (dir : Int) (s : ByteArray) (m : Int) : Calls Tryd.prog 11 #[.pointer none, .int .i64 dir, .string s, .int .i64 m] w fun e w' => e = .returned (.tuple #[.int .i64 0, .int .i64 9]) ∧ Fr (fun _ => False) w w' := by
  have hmm := @run_makeMap Tryd.prog
  go_enter Tryd.func11, Tryd.ntmps11
  go_wp2_with fail
  refine (add_nil _ _ _ _).mono ?_
  rintro e w1 ⟨rfl, hf1⟩
  skip
  go_wp2_with fail
  go_returns
  exact ⟨rfl, by first | exact hf1 | exact hf1.alloc _ | exact ((Fr.refl (fun _ => False) w).alloc _).trans hf1 | exact (((Fr.refl (fun _ => False) w).alloc _).alloc _).trans hf1⟩
set_option maxRecDepth 100000 in
theorem Mkdir_nil (w : World) (dir : Int) (s : ByteArray) (m : Int) : Calls Tryd.prog 31 #[.pointer none, .int .i64 dir, .string s, .int .i64 m] w fun e w' => e = .returned (.int .i64 9) ∧ Fr (fun _ => False) w w' := by
  have hmm := @run_makeMap Tryd.prog
  go_enter Tryd.func31, Tryd.ntmps31
  go_wp2_with fail
  refine (add_nil _ _ _ _).mono ?_
  rintro e w1 ⟨rfl, hf1⟩
  skip
  go_wp2_with fail
  go_ret
  exact ⟨rfl, by first | exact hf1 | exact hf1.alloc _ | exact ((Fr.refl (fun _ => False) w).alloc _).trans hf1 | exact (((Fr.refl (fun _ => False) w).alloc _).alloc _).trans hf1⟩
set_option maxRecDepth 100000 in
theorem Unlink_nil (w : World) (dir : Int) (s : ByteArray) : Calls Tryd.prog 30 #[.pointer none, .int .i64 dir, .string s] w fun e w' => e = .returned (.int .i64 9) ∧ Fr (fun _ => False) w w' := by
  have hmm := @run_makeMap Tryd.prog
  go_enter Tryd.func30, Tryd.ntmps30
  go_wp2_with fail
  refine (ahead_nil _ _ _).mono ?_
  rintro e w1 ⟨rfl, hf1⟩
  unfold placeNil
  go_wp2_with fail
  go_ret
  exact ⟨rfl, by first | exact hf1 | exact hf1.alloc _ | exact ((Fr.refl (fun _ => False) w).alloc _).trans hf1 | exact (((Fr.refl (fun _ => False) w).alloc _).alloc _).trans hf1⟩
set_option maxRecDepth 100000 in
theorem Rmdir_nil (w : World) (dir : Int) (s : ByteArray) : Calls Tryd.prog 36 #[.pointer none, .int .i64 dir, .string s] w fun e w' => e = .returned (.int .i64 9) ∧ Fr (fun _ => False) w w' := by
  have hmm := @run_makeMap Tryd.prog
  go_enter Tryd.func36, Tryd.ntmps36
  go_wp2_with fail
  refine (ahead_nil _ _ _).mono ?_
  rintro e w1 ⟨rfl, hf1⟩
  unfold placeNil
  go_wp2_with fail
  go_ret
  exact ⟨rfl, by first | exact hf1 | exact hf1.alloc _ | exact ((Fr.refl (fun _ => False) w).alloc _).trans hf1 | exact (((Fr.refl (fun _ => False) w).alloc _).alloc _).trans hf1⟩
set_option maxRecDepth 100000 in
theorem Link_nil (w : World) (dir : Int) (s t : ByteArray) : Calls Tryd.prog 29 #[.pointer none, .int .i64 dir, .string s, .string t] w fun e w' => e = .returned (.int .i64 9) ∧ Fr (fun _ => False) w w' := by
  have hmm := @run_makeMap Tryd.prog
  go_enter Tryd.func29, Tryd.ntmps29
  go_wp2_with fail
  refine (fwalk_nil _ _ _).mono ?_
  rintro e w1 ⟨rfl, hf1⟩
  skip
  go_wp2_with fail
  go_ret
  exact ⟨rfl, by first | exact hf1 | exact hf1.alloc _ | exact ((Fr.refl (fun _ => False) w).alloc _).trans hf1 | exact (((Fr.refl (fun _ => False) w).alloc _).alloc _).trans hf1⟩
set_option maxRecDepth 100000 in
theorem Rename_nil (w : World) (dir : Int) (s t : ByteArray) : Calls Tryd.prog 27 #[.pointer none, .int .i64 dir, .string s, .string t] w fun e w' => e = .returned (.int .i64 9) ∧ Fr (fun _ => False) w w' := by
  have hmm := @run_makeMap Tryd.prog
  go_enter Tryd.func27, Tryd.ntmps27
  go_wp2_with fail
  refine (ahead_nil _ _ _).mono ?_
  rintro e w1 ⟨rfl, hf1⟩
  unfold placeNil
  go_wp2_with fail
  go_ret
  exact ⟨rfl, by first | exact hf1 | exact hf1.alloc _ | exact ((Fr.refl (fun _ => False) w).alloc _).trans hf1 | exact (((Fr.refl (fun _ => False) w).alloc _).alloc _).trans hf1⟩
end Go.Proofs.YthikjdpnlahkfaaDoor
