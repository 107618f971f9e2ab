/- A file's bytes: more zeros behind them, fewer of them, some of them written over. Conditions: the laws' own premises. -/
import Derived.Test.YthikjdpnlahkfaaDoorFilesG
import Derived.Lib.AppendZerosOnto
import Derived.Laws.CopyRow
namespace Go.Proofs.YthikjdpnlahkfaaDoor
open Go.RowKit

def byteV (l : List UInt8) : List Value := l.map fun c => .int .u8 c.toNat
theorem byteV_zeros (k : Nat) : byteV (List.replicate k 0) = List.replicate k (.int .u8 0) := by simp [byteV]
theorem zeroCells_one (k : Nat) : (Builtin.zeroCells (#[.int .u8 0] : Array Value) k) = (List.replicate k (Value.int .u8 0)).toArray := by
  apply Array.toList_inj.1
  apply List.ext_getElem
  · simp [Builtin.zeroCells]
  · intro i h1 h2
    simp [Builtin.zeroCells, Nat.mod_one]
theorem byteV_one (l : List UInt8) : ∀ v ∈ byteV l, v.oneCell' = true := by
  intro v hv
  obtain ⟨c, _, rfl⟩ := List.mem_map.1 hv
  rfl
theorem Fr.setRow (w : World) (g : Nat) (c : Array Value) : Fr (fun k => some g = some k) w (w.setRow g c) :=
  ⟨rfl, rfl, rfl, by simp, fun i _ hn => setRow_other w g i c (fun e => hn (by rw [e]))⟩
theorem DataV.form {w : World} {v : Value} {l : List UInt8} (h : DataV w v l) : ∃ a cap, v = .slice a l.length cap := by
  rcases h with ⟨rfl, rfl⟩ | ⟨g, cap, cur, rfl, _⟩
  · exact ⟨_, _, rfl⟩
  · exact ⟨_, _, rfl⟩
/-- k zeros more. -/
theorem data_grow (w : World) (v : Value) (l : List UInt8) (h : DataV w v l) (k : Nat) (h0 : 0 < k) (hb : l.length + k ≤ 1000000) (ty : TypeId) :
    ∃ v' w', (Builtin.append_ #[71, 3] ty #[v, .int .i64 k]).run Tryd.prog w = .ok v' w' ∧ DataV w' v' (l ++ List.replicate k 0) ∧ Fr (fun b => v.ownBlock = some b) w w' ∧ (v'.ownBlock = v.ownBlock ∨ v'.ownBlock = some w.heap.size) := by
  obtain ⟨i, hi, hz, hs, hby⟩ : ∃ i, Tryd.prog.info? 5 = some i ∧ i.zero = some (.int .u8 0) ∧ i.size = 1 ∧ i.bytes = 1 := by
    have h : (Tryd.prog.info? 5).map (fun i => (i.zero, i.size, i.bytes)) = some (some (.int .u8 0), 1, 1) := by kernel_rfl
    cases hq : Tryd.prog.info? 5 with
    | none => rw [hq] at h; cases h
    | some i => rw [hq] at h; simp at h; exact ⟨i, rfl, h.1, h.2.1, h.2.2⟩
  have ht : Tryd.prog.underlying 71 = some (.slice 5) := by kernel_rfl
  have htn : Tryd.prog.underlying 3 = some (.int .i64) := by kernel_rfl
  have hlen : (l ++ List.replicate k (0 : UInt8)).length = l.length + k := by simp
  have grow : ∀ base cap, cap < l.length + k → (Builtin.firstCells i.size l.length (.slice base l.length cap)).run Tryd.prog w.drew = .ok (byteV l).toArray w.drew →
      ∃ v' w', (Builtin.append_ #[71, 3] ty #[.slice base l.length cap, .int .i64 k]).run Tryd.prog w = .ok v' w' ∧ DataV w' v' (l ++ List.replicate k 0) ∧ Fr (fun b => (Value.slice base l.length cap).ownBlock = some b) w w' ∧ (v'.ownBlock = (Value.slice base l.length cap).ownBlock ∨ v'.ownBlock = some w.heap.size) := fun base cap hg hold => by
    have hr := Lib.run_append_grow_zeros w 71 3 ty 5 i _ .i64 .i64 ht htn hi hz base l.length cap (byteV l) hold k h0 (by omega) hg (by omega) (by rw [hby]; omega)
      (by rw [hby]; have := nextslicecap_le hg; omega)
    refine ⟨_, _, hr, .inr ⟨w.heap.size, _, _, by rw [hlen], blk_new' _ _ _ rfl, by rw [hlen]; exact grownCap_ge _ _ _ _, ?_, ?_⟩, (Fr.refl _ _).drew.alloc _, .inr rfl⟩
    · have := grownCap_ge w (l.length + k) cap 5
      show _ ≤ ((byteV l).toArray ++ Builtin.zeroCells (#[.int .u8 0] : Array Value) k ++ Builtin.zeroCells (#[.int .u8 0] : Array Value) (grownCap w (l.length + k) cap 5 - (l.length + k))).size
      rw [zeroCells_one, zeroCells_one]
      simp [byteV]
      omega
    · show (((byteV l).toArray ++ Builtin.zeroCells (#[.int .u8 0] : Array Value) k ++ Builtin.zeroCells (#[.int .u8 0] : Array Value) (grownCap w (l.length + k) cap 5 - (l.length + k)))).toList.take _ = _
      rw [zeroCells_one, zeroCells_one, hlen]
      simp only [Array.toList_append, List.map_append]
      rw [List.take_append_of_le_length (by simp [byteV]), List.take_of_length_le (by simp [byteV])]
      simp [byteV]
  rcases h with ⟨rfl, rfl⟩ | ⟨g, cap, cur, rfl, hg, hc1, hc2, hcur⟩
  · exact grow none 0 (by simpa using h0) (run_firstCells_none _ _ _ _ _)
  · have hcells : ∀ j v, (byteV l)[j]? = some v → w.cell? ((⟨g, 0, none⟩ : Addr).add j) = some v := fun j v hv => by
      have hadd : (⟨g, 0, none⟩ : Addr).add j = ⟨g, j, none⟩ := by unfold Addr.add; split <;> simp_all
      have hj : j < l.length := by
        have := (List.getElem?_eq_some_iff.1 hv).1
        simpa [byteV] using this
      rw [hadd, blk_cell hg, ← hv]
      show _ = (List.map _ l)[j]?
      rw [← hcur, List.getElem?_take_of_lt hj, Array.getElem?_toList]
    by_cases hfit : l.length + k ≤ cap
    · have hw : IntKind.i64.wrap (k : Int) = k := by rw [IntKind.wrap_i64]; omega
      have hneg : ¬ ((k : Int) < 0) := by omega
      have h48i : ¬ (281474976710656 < (k : Int)) := by omega
      have hns : ¬ (k = 0) := by omega
      have hst := run_storeCells_at (P := Tryd.prog) g l.length 5 (List.replicate k (Value.int .u8 0)) 0 cur w hg (by simp; omega) (by intro v hv; rw [(List.mem_replicate.1 hv).2]; rfl)
      have hadd : (⟨g, 0, none⟩ : Addr).add l.length = ⟨g, l.length, none⟩ := by unfold Addr.add; split <;> simp_all
      refine ⟨.slice (some ⟨g, 0, none⟩) (l.length + k) cap, w.setRow g (cur.toList.take l.length ++ List.replicate k (Value.int .u8 0) ++ cur.toList.drop (l.length + k)).toArray, ?_, ?_, (Fr.setRow w g _).mono (fun _ _ e => e), .inl rfl⟩
      · simp [Builtin.append_, run_underlying ht, run_underlying htn, sizeOf, typeInfo, zeroValue, hi, hz, hs, hby, asInt, asIntOf, hw, hneg, h48i, hns, hfit, hadd, zeroCells_one, Value.cells]
        simp only [Nat.add_zero, List.length_replicate] at hst
        rw [hst, Result.andThen_ok]
        simp only [List.append_assoc]
      · refine .inr ⟨g, cap, _, by rw [hlen], setRow_heap w g cur _ _ _ hg, by rw [hlen]; exact hfit, ?_, ?_⟩
        · simp
          omega
        · rw [hlen]
          rw [List.take_append_of_le_length (by simp; omega), List.take_of_length_le (by simp; omega), hcur]
          simp
    · exact grow _ _ (by omega) (run_firstCells_some w.drew 1 l.length _ _ _ (byteV l) (by simp [byteV]) (fun j v hv => hcells j v hv) |> fun h => by rw [hs]; exact h)
end Go.Proofs.YthikjdpnlahkfaaDoor
