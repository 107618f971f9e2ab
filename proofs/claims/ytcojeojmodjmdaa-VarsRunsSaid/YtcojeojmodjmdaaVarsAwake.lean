/- Contracts of vars.New and shyardlaw14.awake. No condition. -/
import Derived.Test.YtcojeojmodjmdaaVarsEnv
namespace Go.Proofs.Ytcojeojmodjmdaa
open Go.RowKit

def NewPost (w : World) (e : Ending) (w' : World) : Prop := ∃ b, e = .returned (.pointer (some ⟨b, 0, none⟩)) ∧ VarsAt w' b [] [] (fun k => w.heap.size ≤ k) ∧ Fr (fun _ => False) w w'
theorem vnew_any (w : World) : Calls Try.prog 9 #[] w (NewPost w) := by
  have hmm := @run_makeMap Try.prog
  go_enter Try.func9, Try.ntmps9
  go_wp2
  go_ret
  refine ⟨w.heap.size + 1, rfl, ⟨w.heap.size, .slice none 0 0, blk_new' _ _ _ (by simp), ?_, by omega, ⟨none, 0, rfl, Nat.le_refl _, fun _ => rfl, .inl rfl⟩, by omega, by omega, fun k hk => by simp at hk; omega, by simp, by simp⟩, ((Fr.refl _ _).alloc _).alloc _⟩
  exact (SMapAt.made w).frame ((Fr.refl (fun _ => False) _).alloc _) (fun h => h)
def VAwakePost (w : World) (e : Ending) (w' : World) : Prop := e = .returned (.bool true) ∧ Fr (fun _ => False) w w'
def sa : ByteArray := ⟨#[97]⟩
def s1 : ByteArray := ⟨#[49]⟩
set_option maxHeartbeats 1000000 in
theorem vawake_any (w : World) : Calls Try.prog 8 #[] w (VAwakePost w) := by
  go_enter Try.func8, Try.ntmps8
  go_wp2_with fail
  refine (vnew_any w).mono ?_
  rintro e w1 ⟨b, rfl, h1, hf1⟩
  go_wp2_with fail
  refine (vset_any w1 b _ _ _ h1 sa s1 (by decide) (by decide)).mono ?_
  rintro e w2 ⟨rfl, h2, hf2⟩
  rw [show setE [] sa.data.toList s1.size = 0 by decide]
  rw [show setM [] sa.data.toList s1 = [(sa.data.toList, ⟨s1, false, false, false⟩)] by rfl] at h2
  go_wp2_with fail
  refine (vmark_any w2 b _ _ _ h2 sa (by decide) true false).mono ?_
  rintro e w3 ⟨rfl, h3, hf3⟩
  rw [show markE [(sa.data.toList, (⟨s1, false, false, false⟩ : VR))] sa.data.toList true false = 0 by decide]
  rw [show markM [(sa.data.toList, (⟨s1, false, false, false⟩ : VR))] sa.data.toList true false = [(sa.data.toList, ⟨s1, true, false, false⟩)] by rfl] at h3
  go_wp2_with fail
  refine (env_any w3 b _ _ _ h3).mono ?_
  rintro e w4 ⟨v, rfl, hown, hf4⟩
  rw [show envL [(sa.data.toList, (⟨s1, true, false, false⟩ : VR))] = [⟨#[97, 61, 49]⟩] by rfl] at hown
  obtain ⟨va, vc, rfl⟩ := own_form hown
  obtain ⟨g, rfl, _, _, hc⟩ := own_cells hown (by decide)
  have c0 := hc 0 (.string ⟨#[97, 61, 49]⟩) rfl
  have hall : Fr (fun _ => False) w w4 := ((hf1.trans' (hf2.trans hf3) (fun i hi e => by omega)).trans hf4)
  clear hown hc hf1 hf2 hf3 hf4 h1 h2 h3
  go_wp2_with fail
  go_ret
  exact ⟨rfl, hall⟩
end Go.Proofs.Ytcojeojmodjmdaa
