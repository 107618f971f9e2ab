/- The laws' helper 'awake' over pipes returns true and leaves old memory as it was. No condition. -/
import Derived.Test.YtcoaggghabdndaaPipeR
namespace Go.Proofs.Ytcoaggghabdndaa
open Go.RowKit

def AwakePost (w : World) (e : Ending) (w' : World) : Prop := e = .returned (.bool true) ∧ Fr (fun _ => False) w w'

set_option maxHeartbeats 400000 in
theorem pawake_any (w : World) : Calls Try.prog 13 #[] w (AwakePost w) := by
  go_enter Try.func13, Try.ntmps13
  go_wp2_with fail
  refine (pnew_any _ _).mono ?_
  rintro e w1 ⟨hf1, (⟨h, _⟩ | ⟨_, b, lb, hb, hlb, rfl, hp1⟩)⟩
  · omega
  go_wp2_with fail
  refine (popen_any _ _ _ _ _ _ _ hp1 (by omega) (by omega) _).mono ?_
  rintro e w2 ⟨rfl, hp2', hf2⟩
  have hp2 : PipeAt w2 b lb 1 [] 0 1 := hp2'
  clear hp2'
  go_wp2_with fail
  refine (popen_any _ _ _ _ _ _ _ hp2 (by omega) (by omega) _).mono ?_
  rintro e w3 ⟨rfl, hp3', hf3⟩
  have hp3 : PipeAt w3 b lb 1 [] 1 1 := hp3'
  clear hp3'
  go_wp2_with fail
  refine (pwrite_any _ _ _ _ _ _ _ hp3 _ (by decide)).mono ?_
  rintro e w4 ⟨he4, hp4', hf4⟩
  have hp4 : PipeAt w4 b lb 1 [97] 1 1 := hp4'
  obtain rfl : e = .returned (.tuple #[.int .i64 1, .int .i64 0]) := he4
  clear hp4'
  go_wp2_with fail
  refine (pread_any _ _ _ _ _ _ _ hp4 _ (by omega)).mono ?_
  rintro e w5 ⟨he5, hp5', hf5⟩
  obtain rfl : e = .returned (.tuple #[.string ⟨#[97]⟩, .int .i64 0]) := he5
  clear hp5'
  go_wp2_with fail
  go_ret
  refine ⟨rfl, ?_⟩
  have hz := hf1.size
  have h2 : Fr (fun _ => False) w w2 := hf1.trans' hf2 (fun i hi e => by omega)
  have h3 : Fr (fun _ => False) w w3 := h2.trans' hf3 (fun i hi e => by omega)
  have h4 : Fr (fun _ => False) w w4 := h3.trans' hf4 (fun i hi e => by rcases e with e | e <;> omega)
  exact h4.trans' hf5 (fun i hi e => by omega)
end Go.Proofs.Ytcoaggghabdndaa
