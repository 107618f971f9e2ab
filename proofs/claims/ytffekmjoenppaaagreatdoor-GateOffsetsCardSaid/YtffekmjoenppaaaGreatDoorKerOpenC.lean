/- gate.asked.open, in all cases. Conditions: the contract's own premises. -/
import Derived.Test.YtffekmjoenppaaaGreatDoorKerOpenB
namespace Go.Proofs.YtffekmjoenppaaaGreatDoor
open Go.RowKit

theorem aopen_any (w : World) (k : Nat) (K : KQ) (L : KLay) (h : KF w k K L) (N : Nat) (hok : KOk K N) (hN : N + 4 ≤ 1000000) (i : Nat) (h1 : 1 ≤ i) (h2 : i ≤ K.qn) (a : Nat) (c : SysQ) (ha : AskAt w a k (L.qb i) c noResV) (hao : L.o a = none) (hml : Ml w) (hgo : L.o glB = none) (hga : glB ≠ a) (hsz : c.s.size ≤ 9223372036854775807) :
    Calls Tryz.prog 25 #[ptrAt a] w (KErrPost w k K L i a c (openA K i c.s c.a c.b)) := by
  have m2 : ∀ x : Nat, x % 2 = 0 ∨ x % 2 = 1 := fun x => by omega
  by_cases hb : c.a < 0 ∨ 63 < c.a ∨ c.a.toNat % 4 = 0
  · exact aopen_bad w k K L h N hok hN i h1 h2 a c ha hao hml hgo hga hsz hb
  obtain ⟨f, hca⟩ : ∃ f : Nat, c.a = f := ⟨c.a.toNat, by omega⟩
  have hf : f < 64 := by omega
  have hf4 : ¬ f % 4 = 0 := by omega
  by_cases hu : 32 - used (K.proc i).fds 32 = 0
  · exact aopen_full w k K L h N hok hN i h1 h2 a c ha hao hml hgo hga hsz f hf hca hf4 hu
  by_cases hwe : (walkE K.σ (K.proc i).dir c.s.data.toList).1 = 0
  · by_cases hfe : foundE K.σ (walkE K.σ (K.proc i).dir c.s.data.toList).2 f = 0
    · rcases m2 (f / 16) with h16 | h16
      · exact aopen_found0 w k K L h N hok hN i h1 h2 a c ha hao hml hgo hga hsz f hf hca hf4 hu hwe hfe h16
      · rcases m2 (f / 2) with h2b | h2b
        · exact aopen_found1 w k K L h N hok hN i h1 h2 a c ha hao hml hgo hga hsz f hf hca hf4 hu hwe hfe h16 h2b
        · exact aopen_found2 w k K L h N hok hN i h1 h2 a c ha hao hml hgo hga hsz f hf hca hf4 hu hwe hfe h16 h2b
    · exact aopen_nofound w k K L h N hok hN i h1 h2 a c ha hao hml hgo hga hsz f hf hca hf4 hu hwe hfe
  · by_cases hc : (walkE K.σ (K.proc i).dir c.s.data.toList).1 = 2 ∧ f / 4 % 2 = 1
    · by_cases hce : (createR K.σ (K.proc i).dir c.s.data.toList (modeC c.b (K.proc i).mask)).2.1 = 0
      · rcases m2 (f / 16) with h16 | h16
        · exact aopen_created0 w k K L h N hok hN i h1 h2 a c ha hao hml hgo hga hsz f hf hca hf4 hu hc.1 hc.2 hce h16
        · rcases m2 (f / 2) with h2b | h2b
          · exact aopen_created1 w k K L h N hok hN i h1 h2 a c ha hao hml hgo hga hsz f hf hca hf4 hu hc.1 hc.2 hce h16 h2b
          · exact aopen_created2 w k K L h N hok hN i h1 h2 a c ha hao hml hgo hga hsz f hf hca hf4 hu hc.1 hc.2 hce h16 h2b
      · exact aopen_nocreate w k K L h N hok hN i h1 h2 a c ha hao hml hgo hga hsz f hf hca hf4 hu hc.1 hc.2 hce
    · exact aopen_err w k K L h N hok hN i h1 h2 a c ha hao hml hgo hga hsz f hf hca hf4 hu hc hwe
end Go.Proofs.YtffekmjoenppaaaGreatDoor
