/- Contract of shyardlaw11.awake. No condition. -/
import Derived.Test.YtcoaggghabdndaaTabFree
namespace Go.Proofs.Ytcoaggghabdndaa
open Go.RowKit

def AwakePost (w : World) (e : Ending) (w' : World) : Prop := e = .returned (.bool true) ∧ Fr (fun _ => False) w w'
theorem putT_ok {w : World} {t : Nat} {st : TSt} {S : Nat → Prop} {x least : Int} {k : Nat} (hi : inB least = true) (hf : firstFree st least.toNat = some k) {e : Ending} {w' : World} (h : PutTPost w t st S x least e w') :
    e = .returned (.tuple #[.int .i64 k, .int .i64 0]) ∧ TabAt w' t (st.set k (some (x, false))) S ∧ Fr S w w' := by
  rcases h with ⟨h1, _⟩ | ⟨_, h1, _⟩ | ⟨_, k', _, h1, h2⟩
  · rw [hi] at h1; cases h1
  · rw [hf] at h1; cases h1
  · rw [hf] at h1; cases h1; exact h2
set_option maxHeartbeats 1000000 in
theorem awake_any (w : World) : Calls Try.prog 9 #[] w (AwakePost w) := by
  go_enter Try.func9, Try.ntmps9
  go_wp2_with fail
  refine (new_any w).mono ?_
  rintro e w1 ⟨rfl, hw1⟩
  have ht := TabF.new w (fun k => w.heap.size ≤ k) (fun _ h => h) w1 hw1
  have hf1 : Fr (fun k => w.heap.size ≤ k) w w1 := by rw [hw1]; exact (Fr.refl _ _).alloc _
  clear hw1
  go_wp2_with fail
  refine (putT_any w1 w.heap.size _ _ ht 7 0).mono ?_
  intro e w2 hp
  obtain ⟨rfl, ht, hf2⟩ := putT_ok (k := 0) rfl (by decide) hp
  have hf2 := hf1.trans hf2
  clear hf1 hp
  go_wp2_with fail
  refine (putT_any w2 w.heap.size _ _ ht 8 0).mono ?_
  intro e w3 hp
  obtain ⟨rfl, ht, hf3⟩ := putT_ok (k := 1) rfl (by decide) hp
  have hf3 := hf2.trans hf3
  clear hf2 hp
  go_wp2_with fail
  refine (get_any w3 w.heap.size _ _ ht 1).mono ?_
  rintro e w4 ⟨rfl, rfl⟩
  rw [show getV (TSt.at _ 1) = .tuple #[.int .i64 8, .int .i64 0] from rfl]
  go_wp2_with fail
  refine (free_any w3 w.heap.size _ _ ht).mono ?_
  rintro e w5 ⟨rfl, hf5⟩
  rw [show ∀ a b : Int × Bool, (32 - used (TSt.set (TSt.set (fun _ => none) 0 (some a)) 1 (some b)) 32) = 30 from fun _ _ => rfl]
  have hf6 : Fr (fun _ => False) w w5 := (hf3.trans' hf5 (fun _ _ e => e.elim)).mono (fun i hi e => by omega)
  clear hf3 hf5 ht
  go_wp2
  go_ret
  exact ⟨rfl, hf6⟩
end Go.Proofs.Ytcoaggghabdndaa
