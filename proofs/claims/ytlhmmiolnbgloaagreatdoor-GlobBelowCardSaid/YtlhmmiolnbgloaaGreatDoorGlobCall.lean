/- What the glob laws' walks are told of their arguments: a row of paths to lay; a pattern. No condition. -/
import Derived.Test.YtlhmmiolnbgloaaGreatDoorFilesCall
import Derived.Test.YtlhmmiolnbgloaaGreatDoorGlobXP
namespace Go.Proofs.YtlhmmiolnbgloaaGreatDoor
open Go.ChangeShapes Go.WideShapes Go.ChangeAt Go.RowKit Go.Deep

theorem lay_row {H : Type} {enc : TypeId × Value → H} {W : World} {a : Option Addr} {len cap : Nat} {d : DataW H} {ps : List MemPlace} {base : Nat} {sp : Nat → Bool} {held : Bool}
    (h : DataW.Trod enc Tryz.prog W base sp held 22 (.slice a len cap) d ps) (hz : ∀ m ∈ d.weights Tryz.prog 22, m ≤ reachBytes) : LayRowN W a len := by
  obtain ⟨h1, h2⟩ := struct_row_w Tryz.underlying22 Tryz.underlying52 (by decide) (by kernel_rfl) (by kernel_rfl) h
  rcases h2 with rfl | ⟨cb, co, rfl, h2⟩
  · exact ⟨[], rfl, by simp, (fun c hc => by cases hc), .inl rfl⟩
  · obtain ⟨l, hl, hp⟩ := list_of (n := len) (p := fun k (c : LayQ) => LayOk c ∧ W.cell? ⟨cb, co + (k * 3 + 0), none⟩ = some (.string c.path) ∧ W.cell? ⟨cb, co + (k * 3 + 1), none⟩ = some (.bool c.dir) ∧ W.cell? ⟨cb, co + (k * 3 + 2), none⟩ = some (.int .i64 c.mode)) (fun k hk => by
        obtain ⟨v0, y0, n0, c0, t0, z0⟩ := h2 k hk 0 _ rfl
        obtain ⟨v1, y1, n1, c1, t1, _⟩ := h2 k hk 1 _ rfl
        obtain ⟨v2, y2, n2, c2, t2, _⟩ := h2 k hk 2 _ rfl
        obtain ⟨pa, e0, x0, _⟩ := DataW.trod_string Tryz.underlying9 t0
        obtain ⟨b, e1, _⟩ := DataW.trod_bool Tryz.underlying4 t1
        obtain ⟨m, e2, _, f2⟩ := DataW.trod_int Tryz.underlying3 t2
        simp only [List.cons.injEq, and_true] at e0 e1 e2
        subst e0 e1 e2 x0
        have q0 := reach47 (hz _ (z0 pa.data.toList.length (by simp [DataW.weights])))
        rw [ba_len] at q0
        exact ⟨⟨pa, b, m⟩, ⟨Nat.le_trans q0 (by decide), bounds_i64 f2⟩, c0, c1, c2⟩)
    refine ⟨l, hl, by omega, fun c hc => ?_, ?_⟩
    · obtain ⟨k, hk, rfl⟩ := List.mem_iff_getElem.1 hc
      exact (hp k hk).1
    · by_cases e : l = []
      · exact .inl e
      · have h0 := (hp 0 (List.length_pos_iff.2 e)).2.1
        exact .inr ⟨cb, co, rfl, World.block_lt_of_cell? _ _ h0, fun k hk => (hp k hk).2⟩
def ChRowN (W : World) (a : Option Addr) (len cap : Nat) : Prop := ∃ p : List Ch, ChV W (fun k => k < W.heap.size) (.slice a len cap) p
theorem ch_rowN {H : Type} {enc : TypeId × Value → H} {W : World} {a : Option Addr} {len cap : Nat} {d : DataW H} {ps : List MemPlace} {base : Nat} {sp : Nat → Bool} {held : Bool}
    (h : DataW.Trod enc Tryz.prog W base sp held 32 (.slice a len cap) d ps) (_ : ∀ m ∈ d.weights Tryz.prog 32, m ≤ reachBytes) : ChRowN W a len cap := by
  obtain ⟨h1, h2⟩ := struct_row_w Tryz.underlying32 Tryz.underlying35 (by decide) (by kernel_rfl) (by kernel_rfl) h
  have hc : len ≤ cap ∧ cap ≤ 9223372036854775807 := by
    obtain ⟨fuel, h⟩ := h
    rcases open_slice Tryz.underlying32 h with ⟨e, _⟩ | ⟨_, _, _, _, _, _, _, e, _, hl, hm, _⟩
    · simp [Value.cells] at e
      omega
    · simp [Value.cells] at e
      obtain ⟨_, rfl, rfl⟩ := e
      unfold maxLen at hm
      omega
  rcases h2 with rfl | ⟨cb, co, rfl, h2⟩
  · exact ⟨[], a, cap, rfl, by simp, hc.2, .inl rfl⟩
  · obtain ⟨l, hl, hp⟩ := list_of (n := len) (p := fun k (c : Ch) => W.cell? ⟨cb, co + (k * 2 + 0), none⟩ = some (.int .u8 c.b.toNat) ∧ W.cell? ⟨cb, co + (k * 2 + 1), none⟩ = some (.bool c.q)) (fun k hk => by
        obtain ⟨v0, y0, n0, c0, t0, _⟩ := h2 k hk 0 _ rfl
        obtain ⟨v1, y1, n1, c1, t1, _⟩ := h2 k hk 1 _ rfl
        obtain ⟨m, e0, _, f0⟩ := DataW.trod_int Tryz.underlying5 t0
        obtain ⟨b, e1, _⟩ := DataW.trod_bool Tryz.underlying4 t1
        simp only [List.cons.injEq, and_true] at e0 e1
        subst e0 e1
        have hm := bounds_u8 f0
        refine ⟨⟨UInt8.ofNat m.toNat, b⟩, ?_, c1⟩
        have e : (((UInt8.ofNat m.toNat).toNat : Nat) : Int) = m := by
          rw [UInt8.toNat_ofNat_of_lt' (by have := hm; show m.toNat < 256; omega)]
          omega
        rw [e]
        exact c0)
    subst hl
    refine ⟨l, _, cap, rfl, hc.1, hc.2, ?_⟩
    by_cases e : l = []
    · exact .inl e
    · have h0 := (hp 0 (List.length_pos_iff.2 e)).1
      have hb := World.block_lt_of_cell? _ _ h0
      exact .inr ⟨cb, co, rfl, hb, hb, fun k hk => ⟨by simpa using (hp k hk).1, by have := (hp k hk).2; rwa [← Nat.add_assoc] at this⟩⟩
end Go.Proofs.YtlhmmiolnbgloaaGreatDoor
