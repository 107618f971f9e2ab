/- Every method of files.FS at no tree (nil): EBADF, nothing. No condition. -/
import Derived.Test.YthikjdpnlahkfaaGreatDoorFilesR
namespace Go.Proofs.YthikjdpnlahkfaaGreatDoor
open Go.RowKit

set_option maxRecDepth 100000 in
theorem fget_nil (w : World) (i : Int) : Calls Tryz.prog 52 #[.pointer none, .int .i64 i] w fun e w' => e = .returned (.pointer none) ∧ w = w' := by
  go_enter Tryz.func52, Tryz.ntmps52
  go_wp2
  go_ret
  exact ⟨rfl, rfl⟩
set_option maxRecDepth 100000 in
theorem start_nil (w : World) (dir : Int) (s : ByteArray) : Calls Tryz.prog 88 #[.pointer none, .int .i64 dir, .string s] w fun e w' => e = .returned (.tuple #[.agg #[.pointer none, .slice none 0 0, .bool false], .int .i64 9]) ∧ Fr (fun _ => False) w w' := by
  go_enter Tryz.func88, Tryz.ntmps88
  go_wp2_with fail
  refine (fget_nil _ _).mono ?_
  rintro e w1 ⟨rfl, rfl⟩
  go_wp2_with fail
  go_returns
  exact ⟨rfl, by first | exact Fr.refl _ _ | exact (Fr.refl _ _).alloc _⟩
set_option maxRecDepth 100000 in
theorem fwalk_nil (w : World) (dir : Int) (s : ByteArray) : Calls Tryz.prog 60 #[.pointer none, .int .i64 dir, .string s] w fun e w' => e = .returned (.tuple #[.pointer none, .int .i64 9]) ∧ Fr (fun _ => False) w w' := by
  go_enter Tryz.func60, Tryz.ntmps60
  go_wp2_with fail
  refine (start_nil _ _ _).mono ?_
  rintro e w1 ⟨rfl, hf1⟩
  go_wp2_with fail
  go_returns
  exact ⟨rfl, by first | exact hf1 | exact ((Fr.refl (fun _ => False) w).alloc _).trans hf1 | exact hf1.alloc _ | exact (((Fr.refl (fun _ => False) w).alloc _).trans hf1).alloc _⟩
set_option maxRecDepth 100000 in
theorem Walk_nil (w : World) (dir : Int) (s : ByteArray) : Calls Tryz.prog 21 #[.pointer none, .int .i64 dir, .string s] w fun e w' => e = .returned (.tuple #[.int .i64 0, .int .i64 9]) ∧ Fr (fun _ => False) w w' := by
  go_enter Tryz.func21, Tryz.ntmps21
  go_wp2_with fail
  refine (fwalk_nil _ _ _).mono ?_
  rintro e w1 ⟨rfl, hf1⟩
  go_wp2_with fail
  go_returns
  exact ⟨rfl, by first | exact hf1 | exact ((Fr.refl (fun _ => False) w).alloc _).trans hf1 | exact hf1.alloc _ | exact (((Fr.refl (fun _ => False) w).alloc _).trans hf1).alloc _⟩
set_option maxRecDepth 100000 in
theorem file_nil (w : World) (i : Int) : Calls Tryz.prog 58 #[.pointer none, .int .i64 i] w fun e w' => e = .returned (.tuple #[.pointer none, .int .i64 9]) ∧ w = w' := by
  go_enter Tryz.func58, Tryz.ntmps58
  go_wp2_with fail
  refine (fget_nil _ _).mono ?_
  rintro e w1 ⟨rfl, rfl⟩
  go_wp2_with fail
  go_returns
  exact ⟨rfl, rfl⟩
set_option maxRecDepth 100000 in
theorem Read_nil (w : World) (i a n : Int) : Calls Tryz.prog 27 #[.pointer none, .int .i64 i, .int .i64 a, .int .i64 n] w fun e w' => e = .returned (.tuple #[.string ⟨#[]⟩, .int .i64 9]) ∧ w = w' := by
  go_enter Tryz.func27, Tryz.ntmps27
  go_wp2_with fail
  refine (file_nil _ _).mono ?_
  rintro e w1 ⟨rfl, rfl⟩
  go_wp2_with fail
  go_returns
  exact ⟨rfl, rfl⟩
set_option maxRecDepth 100000 in
theorem Write_nil (w : World) (i a : Int) (s : ByteArray) : Calls Tryz.prog 20 #[.pointer none, .int .i64 i, .int .i64 a, .string s] w fun e w' => e = .returned (.tuple #[.int .i64 0, .int .i64 9]) ∧ w = w' := by
  go_enter Tryz.func20, Tryz.ntmps20
  go_wp2_with fail
  refine (file_nil _ _).mono ?_
  rintro e w1 ⟨rfl, rfl⟩
  go_wp2_with fail
  go_returns
  exact ⟨rfl, rfl⟩
set_option maxRecDepth 100000 in
theorem Truncate_nil (w : World) (i n : Int) : Calls Tryz.prog 28 #[.pointer none, .int .i64 i, .int .i64 n] w fun e w' => e = .returned (.int .i64 9) ∧ w = w' := by
  go_enter Tryz.func28, Tryz.ntmps28
  go_wp2_with fail
  refine (file_nil _ _).mono ?_
  rintro e w1 ⟨rfl, rfl⟩
  go_wp2_with fail
  go_ret
  exact ⟨rfl, rfl⟩
set_option maxRecDepth 100000 in
theorem Chmod_nil (w : World) (i n : Int) : Calls Tryz.prog 29 #[.pointer none, .int .i64 i, .int .i64 n] w fun e w' => e = .returned (.int .i64 9) ∧ w = w' := by
  go_enter Tryz.func29, Tryz.ntmps29
  go_wp2_with fail
  refine (fget_nil _ _).mono ?_
  rintro e w1 ⟨rfl, rfl⟩
  go_wp2_with fail
  go_ret
  exact ⟨rfl, rfl⟩
set_option maxRecDepth 100000 in
theorem Stat_nil (w : World) (i : Int) : Calls Tryz.prog 30 #[.pointer none, .int .i64 i] w fun e w' => e = .returned (.tuple #[.agg #[.int .i64 0, .int .i64 0, .int .i64 0, .int .i64 0, .int .i64 0], .int .i64 9]) ∧ Fr (fun _ => False) w w' := by
  go_enter Tryz.func30, Tryz.ntmps30
  go_wp2_with fail
  refine (fget_nil _ _).mono ?_
  rintro e w1 ⟨rfl, rfl⟩
  go_wp2_with fail
  go_returns
  exact ⟨rfl, by first | exact Fr.refl _ _ | exact (Fr.refl _ _).alloc _⟩
set_option maxRecDepth 100000 in
theorem List_nil (w : World) (i : Int) : Calls Tryz.prog 31 #[.pointer none, .int .i64 i] w fun e w' => e = .returned (.tuple #[.slice none 0 0, .int .i64 9]) ∧ w = w' := by
  go_enter Tryz.func31, Tryz.ntmps31
  go_wp2_with fail
  refine (fget_nil _ _).mono ?_
  rintro e w1 ⟨rfl, rfl⟩
  go_wp2_with fail
  go_returns
  exact ⟨rfl, rfl⟩
set_option maxRecDepth 100000 in
theorem Hold_nil (w : World) (i : Int) : Calls Tryz.prog 33 #[.pointer none, .int .i64 i] w fun e w' => e = .returned (.int .i64 9) ∧ w = w' := by
  go_enter Tryz.func33, Tryz.ntmps33
  go_wp2_with fail
  refine (fget_nil _ _).mono ?_
  rintro e w1 ⟨rfl, rfl⟩
  go_wp2_with fail
  go_ret
  exact ⟨rfl, rfl⟩
set_option maxRecDepth 100000 in
theorem Drop_nil (w : World) (i : Int) : Calls Tryz.prog 34 #[.pointer none, .int .i64 i] w fun e w' => e = .returned (.int .i64 9) ∧ w = w' := by
  go_enter Tryz.func34, Tryz.ntmps34
  go_wp2_with fail
  refine (fget_nil _ _).mono ?_
  rintro e w1 ⟨rfl, rfl⟩
  go_wp2_with fail
  go_ret
  exact ⟨rfl, rfl⟩
set_option maxRecDepth 100000 in
theorem Path_nil (w : World) (i : Int) : Calls Tryz.prog 35 #[.pointer none, .int .i64 i] w fun e w' => e = .returned (.tuple #[.string ⟨#[]⟩, .int .i64 9]) ∧ w = w' := by
  go_enter Tryz.func35, Tryz.ntmps35
  go_wp2_with fail
  refine (fget_nil _ _).mono ?_
  rintro e w1 ⟨rfl, rfl⟩
  go_wp2_with fail
  go_returns
  exact ⟨rfl, rfl⟩
set_option maxRecDepth 100000 in
theorem Bytes_nil (w : World)  : Calls Tryz.prog 9 #[.pointer none] w fun e w' => e = .returned (.int .i64 0) ∧ w = w' := by
  go_enter Tryz.func9, Tryz.ntmps9
  go_wp2
  go_ret
  exact ⟨rfl, rfl⟩
set_option maxRecDepth 100000 in
theorem Count_nil (w : World)  : Calls Tryz.prog 11 #[.pointer none] w fun e w' => e = .returned (.int .i64 0) ∧ w = w' := by
  go_enter Tryz.func11, Tryz.ntmps11
  go_wp2
  go_ret
  exact ⟨rfl, rfl⟩
set_option maxRecDepth 100000 in
theorem May_nil (w : World) (i n : Int) : Calls Tryz.prog 13 #[.pointer none, .int .i64 i, .int .i64 n] w fun e w' => e = .returned (.bool false) ∧ w = w' := by
  go_enter Tryz.func13, Tryz.ntmps13
  go_wp2_with fail
  refine (fget_nil _ _).mono ?_
  rintro e w1 ⟨rfl, rfl⟩
  go_wp2_with fail
  go_ret
  exact ⟨rfl, rfl⟩
def placeNil : Value := .agg #[.pointer none, .string ⟨#[]⟩, .bool false]
set_option maxRecDepth 100000 in
theorem ahead_nil (w : World) (dir : Int) (s : ByteArray) : Calls Tryz.prog 62 #[.pointer none, .int .i64 dir, .string s] w fun e w' => e = .returned (.tuple #[placeNil, .int .i64 9]) ∧ Fr (fun _ => False) w w' := by
  go_enter Tryz.func62, Tryz.ntmps62
  go_wp2_with fail
  refine (start_nil _ _ _).mono ?_
  rintro e w1 ⟨rfl, hf1⟩
  have hf0 : Fr (fun _ => False) w (w.alloc (.cells #[.pointer none, .string ⟨#[]⟩, .bool false] 111 (0, 0))) := (Fr.refl _ _).alloc _
  have hb1 := hf1.get (blk_new w (.cells #[.pointer none, .string ⟨#[]⟩, .bool false] 111 (0, 0))) (fun e => e)
  have hb2 := blk_alloc hb1 (.cells #[.pointer none, .slice none 0 0, .bool false] 136 (0, 0))
  have zz := blk_frozen hb2
  obtain ⟨c0, c1, c2, c90, c91, c92, hfs⟩ := cells3 hb2 (.pointer none) (.string ⟨#[]⟩) (.bool false)
  have hres : Fr (fun _ => False) w _ := ((hf0.trans hf1).alloc (.cells #[.pointer none, .slice none 0 0, .bool false] 136 (0, 0))).trans' hfs (fun i hi e => by omega)
  have hres := hide hres
  go_wp2_with fail
  refine bodyPost_ret (by simp [results, Tryz.results62, go_sem, c90, c91, c92]; try rfl) rfl ?_
  exact ⟨rfl, hres.out⟩

set_option maxRecDepth 100000 in
theorem add_nil (w : World) (dir : Int) (s : ByteArray) (nv : Value) : Calls Tryz.prog 57 #[.pointer none, .int .i64 dir, .string s, nv] w fun e w' => e = .returned (.int .i64 9) ∧ Fr (fun _ => False) w w' := by
  have hmm := @run_makeMap Tryz.prog
  go_enter Tryz.func57, Tryz.ntmps57
  go_wp2_with fail
  refine (ahead_nil _ _ _).mono ?_
  rintro e w1 ⟨rfl, hf1⟩
  unfold placeNil
  go_wp2_with fail
  go_ret
  exact ⟨rfl, by first | exact hf1 | exact hf1.alloc _ | exact ((Fr.refl (fun _ => False) w).alloc _).trans hf1 | exact (((Fr.refl (fun _ => False) w).alloc _).alloc _).trans hf1⟩
set_option maxRecDepth 100000 in
theorem Create_nil (w : World) (dir : Int) (s : ByteArray) (m : Int) : Calls Tryz.prog 19 #[.pointer none, .int .i64 dir, .string s, .int .i64 m] w fun e w' => e = .returned (.tuple #[.int .i64 0, .int .i64 9]) ∧ Fr (fun _ => False) w w' := by
  have hmm := @run_makeMap Tryz.prog
  go_enter Tryz.func19, Tryz.ntmps19
  go_wp2_with fail
  refine (add_nil _ _ _ _).mono ?_
  rintro e w1 ⟨rfl, hf1⟩
  skip
  go_wp2_with fail
  go_returns
  exact ⟨rfl, by first | exact hf1 | exact hf1.alloc _ | exact ((Fr.refl (fun _ => False) w).alloc _).trans hf1 | exact (((Fr.refl (fun _ => False) w).alloc _).alloc _).trans hf1⟩
set_option maxRecDepth 100000 in
theorem Mkdir_nil (w : World) (dir : Int) (s : ByteArray) (m : Int) : Calls Tryz.prog 18 #[.pointer none, .int .i64 dir, .string s, .int .i64 m] w fun e w' => e = .returned (.int .i64 9) ∧ Fr (fun _ => False) w w' := by
  have hmm := @run_makeMap Tryz.prog
  go_enter Tryz.func18, Tryz.ntmps18
  go_wp2_with fail
  refine (add_nil _ _ _ _).mono ?_
  rintro e w1 ⟨rfl, hf1⟩
  skip
  go_wp2_with fail
  go_ret
  exact ⟨rfl, by first | exact hf1 | exact hf1.alloc _ | exact ((Fr.refl (fun _ => False) w).alloc _).trans hf1 | exact (((Fr.refl (fun _ => False) w).alloc _).alloc _).trans hf1⟩
set_option maxRecDepth 100000 in
theorem Unlink_nil (w : World) (dir : Int) (s : ByteArray) : Calls Tryz.prog 23 #[.pointer none, .int .i64 dir, .string s] w fun e w' => e = .returned (.int .i64 9) ∧ Fr (fun _ => False) w w' := by
  have hmm := @run_makeMap Tryz.prog
  go_enter Tryz.func23, Tryz.ntmps23
  go_wp2_with fail
  refine (ahead_nil _ _ _).mono ?_
  rintro e w1 ⟨rfl, hf1⟩
  unfold placeNil
  go_wp2_with fail
  go_ret
  exact ⟨rfl, by first | exact hf1 | exact hf1.alloc _ | exact ((Fr.refl (fun _ => False) w).alloc _).trans hf1 | exact (((Fr.refl (fun _ => False) w).alloc _).alloc _).trans hf1⟩
set_option maxRecDepth 100000 in
theorem Rmdir_nil (w : World) (dir : Int) (s : ByteArray) : Calls Tryz.prog 24 #[.pointer none, .int .i64 dir, .string s] w fun e w' => e = .returned (.int .i64 9) ∧ Fr (fun _ => False) w w' := by
  have hmm := @run_makeMap Tryz.prog
  go_enter Tryz.func24, Tryz.ntmps24
  go_wp2_with fail
  refine (ahead_nil _ _ _).mono ?_
  rintro e w1 ⟨rfl, hf1⟩
  unfold placeNil
  go_wp2_with fail
  go_ret
  exact ⟨rfl, by first | exact hf1 | exact hf1.alloc _ | exact ((Fr.refl (fun _ => False) w).alloc _).trans hf1 | exact (((Fr.refl (fun _ => False) w).alloc _).alloc _).trans hf1⟩
set_option maxRecDepth 100000 in
theorem Link_nil (w : World) (dir : Int) (s t : ByteArray) : Calls Tryz.prog 25 #[.pointer none, .int .i64 dir, .string s, .string t] w fun e w' => e = .returned (.int .i64 9) ∧ Fr (fun _ => False) w w' := by
  have hmm := @run_makeMap Tryz.prog
  go_enter Tryz.func25, Tryz.ntmps25
  go_wp2_with fail
  refine (fwalk_nil _ _ _).mono ?_
  rintro e w1 ⟨rfl, hf1⟩
  skip
  go_wp2_with fail
  go_ret
  exact ⟨rfl, by first | exact hf1 | exact hf1.alloc _ | exact ((Fr.refl (fun _ => False) w).alloc _).trans hf1 | exact (((Fr.refl (fun _ => False) w).alloc _).alloc _).trans hf1⟩
set_option maxRecDepth 100000 in
theorem Rename_nil (w : World) (dir : Int) (s t : ByteArray) : Calls Tryz.prog 26 #[.pointer none, .int .i64 dir, .string s, .string t] w fun e w' => e = .returned (.int .i64 9) ∧ Fr (fun _ => False) w w' := by
  have hmm := @run_makeMap Tryz.prog
  go_enter Tryz.func26, Tryz.ntmps26
  go_wp2_with fail
  refine (ahead_nil _ _ _).mono ?_
  rintro e w1 ⟨rfl, hf1⟩
  unfold placeNil
  go_wp2_with fail
  go_ret
  exact ⟨rfl, by first | exact hf1 | exact hf1.alloc _ | exact ((Fr.refl (fun _ => False) w).alloc _).trans hf1 | exact (((Fr.refl (fun _ => False) w).alloc _).alloc _).trans hf1⟩
end Go.Proofs.YthikjdpnlahkfaaGreatDoor
