/- What the walks over calls are told of their argument: a call by value; a row of calls. No condition. -/
import Derived.Test.YtlhmmiolnbgloaaGreatDoorRegionQ
import Derived.Test.YtlhmmiolnbgloaaGreatDoorFilesAsk
namespace Go.Proofs.YtlhmmiolnbgloaaGreatDoor
open Go.ChangeShapes Go.WideShapes Go.ChangeAt Go.RowKit Go.Deep

theorem cells_six {v : Value} {a b c d e f : Value} (h : v.cells.toList = [a, b, c, d, e, f]) : v = .agg #[a, b, c, d, e, f] := by
  cases v <;> simp [Value.cells] at h
  rename_i x
  congr 1
  apply Array.toList_inj.1
  simpa using h
section
variable {H : Type} {enc : TypeId × Value → H} {P : Program} {w : World} {base : Nat} {spare : Nat → Bool} {held : Bool}
/-- Each field of a struct of one-cell fields reads by itself, and takes no more than the whole. -/
theorem struct_fields {t : TypeId} {fs : Array Field} {cs : List Value} {fuel : Nat} {x : DataW H × List MemPlace} (ht : P.underlying t = some (.struct fs)) (hone : oneCellFields P fs = true) (hC : P.cellsOf t = fs.size)
    (h : DataW.trod enc P w base spare held fuel t cs = some x) : cs.length = fs.size ∧ ∀ (j : Nat) (f : Field), fs[j]? = some f →
      ∃ (v : Value) (y : DataW H × List MemPlace) (n : Nat), cs[j]? = some v ∧ DataW.trod enc P w base spare held n f.type [v] = some y ∧ ∀ m ∈ y.1.weights P f.type, m ∈ x.1.weights P t := by
  obtain ⟨ys, n', _, hx, hlen, hyl, hfld⟩ := DataW.trod_struct ht h
  refine ⟨by rw [hlen, hC], fun j f hj => ?_⟩
  obtain ⟨hoff, hcell⟩ := hone_of hone j f hj
  have hjl : j < fs.size := (Array.getElem?_eq_some_iff.1 hj).1
  have hjc : j < cs.length := by rw [hlen, hC]; exact hjl
  have hr := hfld j f hj
  rw [hoff, hcell, List.drop_eq_getElem_cons hjc] at hr
  have hys : ys[j]? = some (ys[j]'(by omega)) := List.getElem?_eq_getElem (by omega)
  refine ⟨cs[j], _, n', List.getElem?_eq_getElem hjc, hr.trans hys, fun q hq => ?_⟩
  have e2 : x.1 = .agg (ys.map (·.1)) := congrArg Prod.fst hx
  rw [e2]
  simp only [DataW.weights, ht]
  exact DataW.weights_mem_each (j := j) (t := f.type) (d := (ys[j]'(by omega)).1) (by simp [hj]) (by rw [List.getElem?_map, hys]; rfl) q hq
end
theorem list_six {α : Type} {l : List α} {a b c d e f : α} (h : l.length = 6) (h0 : l[0]? = some a) (h1 : l[1]? = some b) (h2 : l[2]? = some c) (h3 : l[3]? = some d) (h4 : l[4]? = some e) (h5 : l[5]? = some f) : l = [a, b, c, d, e, f] := by
  apply List.ext_getElem?
  intro i
  rcases i with _ | _ | _ | _ | _ | _ | i
  · exact h0
  · exact h1
  · exact h2
  · exact h3
  · exact h4
  · exact h5
  · rw [List.getElem?_eq_none (by omega), List.getElem?_eq_none (by simp)]
theorem call_fields {H : Type} {enc : TypeId × Value → H} {W : World} {base : Nat} {sp : Nat → Bool} {held : Bool} {X : DataW H → Prop} {v0 v1 v2 v3 v4 v5 : Value} {y0 y1 y2 y3 y4 y5 : DataW H × List MemPlace} {n0 n1 n2 n3 n4 n5 : Nat}
    (t0 : DataW.trod enc Tryz.prog W base sp held n0 3 [v0] = some y0) (t1 : DataW.trod enc Tryz.prog W base sp held n1 3 [v1] = some y1) (t2 : DataW.trod enc Tryz.prog W base sp held n2 3 [v2] = some y2) (t3 : DataW.trod enc Tryz.prog W base sp held n3 3 [v3] = some y3)
    (t4 : DataW.trod enc Tryz.prog W base sp held n4 9 [v4] = some y4) (t5 : DataW.trod enc Tryz.prog W base sp held n5 9 [v5] = some y5) (z4 : ∀ m ∈ y4.1.weights Tryz.prog 9, m ≤ reachBytes) (z5 : ∀ m ∈ y5.1.weights Tryz.prog 9, m ≤ reachBytes) :
    ∃ c, CallOk c ∧ v0 = .int .i64 c.what ∧ v1 = .int .i64 c.n ∧ v2 = .int .i64 c.m ∧ v3 = .int .i64 c.k ∧ v4 = .string c.path ∧ v5 = .string c.other := by
  obtain ⟨what, e0, _, f0⟩ := DataW.trod_int Tryz.underlying3 t0
  obtain ⟨n, e1, _, f1⟩ := DataW.trod_int Tryz.underlying3 t1
  obtain ⟨m, e2, _, f2⟩ := DataW.trod_int Tryz.underlying3 t2
  obtain ⟨k, e3, _, f3⟩ := DataW.trod_int Tryz.underlying3 t3
  obtain ⟨pa, e4, x4, _⟩ := DataW.trod_string Tryz.underlying9 t4
  obtain ⟨ot, e5, x5, _⟩ := DataW.trod_string Tryz.underlying9 t5
  simp only [List.cons.injEq, and_true] at e0 e1 e2 e3 e4 e5
  subst e0 e1 e2 e3 e4 e5 x4 x5
  have q4 := reach47 (z4 pa.data.toList.length (by simp [DataW.weights]))
  have q5 := reach47 (z5 ot.data.toList.length (by simp [DataW.weights]))
  rw [ba_len] at q4 q5
  exact ⟨⟨what, n, m, k, pa, ot⟩, ⟨bounds_i64 f0, bounds_i64 f1, bounds_i64 f2, bounds_i64 f3, q4, q5⟩, rfl, rfl, rfl, rfl, rfl, rfl⟩
/-- A row of calls. -/
def CallRow (W : World) (a : Option Addr) (l : List CallQ) : Prop := l.length ≤ 9223372036854775807 ∧ (∀ c ∈ l, CallOk c) ∧ (l = [] ∨ ∃ g o, a = some ⟨g, o, none⟩ ∧ g < W.heap.size ∧ ∀ k (hk : k < l.length),
  W.cell? ⟨g, o + (k * 6 + 0), none⟩ = some (.int .i64 l[k].what) ∧ W.cell? ⟨g, o + (k * 6 + 1), none⟩ = some (.int .i64 l[k].n) ∧ W.cell? ⟨g, o + (k * 6 + 2), none⟩ = some (.int .i64 l[k].m) ∧ W.cell? ⟨g, o + (k * 6 + 3), none⟩ = some (.int .i64 l[k].k) ∧
  W.cell? ⟨g, o + (k * 6 + 4), none⟩ = some (.string l[k].path) ∧ W.cell? ⟨g, o + (k * 6 + 5), none⟩ = some (.string l[k].other))
def CallRowN (W : World) (a : Option Addr) (n : Nat) : Prop := ∃ l : List CallQ, l.length = n ∧ CallRow W a l
theorem list_of {α : Type} {n : Nat} {p : Nat → α → Prop} (h : ∀ k, k < n → ∃ x, p k x) : ∃ l : List α, l.length = n ∧ ∀ k (hk : k < l.length), p k l[k] := by
  induction n with
  | zero => exact ⟨[], rfl, fun k hk => by simp at hk⟩
  | succ n ih =>
    obtain ⟨l, hl, h1⟩ := ih fun k hk => h k (by omega)
    obtain ⟨x, hx⟩ := h n (by omega)
    refine ⟨l ++ [x], by simp [hl], fun k hk => ?_⟩
    by_cases e : k < l.length
    · rw [List.getElem_append_left e]; exact h1 k e
    · have e2 : k = n := by simp at hk; omega
      subst e2
      rw [List.getElem_append_right (by omega)]
      simpa using hx
end Go.Proofs.YtlhmmiolnbgloaaGreatDoor
