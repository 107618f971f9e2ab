/- What a walk is told of an argument: a row of steps (a process's number and a call). No condition. -/
import Derived.Test.YtffekmjoenppaaaGreatDoorProg
import Derived.Test.YtffekmjoenppaaaGreatDoorOwn
import Derived.Test.YtffekmjoenppaaaGreatDoorOwn
import Derived.Test.YtffekmjoenppaaaGreatDoorKerAsk
namespace Go.Proofs.YtffekmjoenppaaaGreatDoor
open Go.ChangeShapes Go.WideShapes Go.ChangeAt Go.RowKit Go.Deep

section
variable {H : Type} {enc : TypeId × Value → H} {P : Program} {w : World} {base : Nat} {spare : Nat → Bool} {held : Bool}
/-- Each element lies in its cells, and reads by itself. -/
theorem elem_row {t e : TypeId} {a : Option Addr} {len cap : Nat} {d : DataW H} {ps : List MemPlace} (ht : P.underlying t = some (.slice e)) (hpos : 0 < P.cellsOf e)
    (h : DataW.Trod enc P w base spare held t (.slice a len cap) d ps) :
    len ≤ 9223372036854775807 ∧ (len = 0 ∨ ∃ cb co : Nat, a = some ⟨cb, co, none⟩ ∧ ∀ i, i < len → ∃ (cs : List Value) (y : DataW H × List MemPlace) (n : Nat), cs.length = P.cellsOf e ∧
      (∀ j, j < P.cellsOf e → w.cell? ⟨cb, co + (i * P.cellsOf e + j), none⟩ = cs[j]?) ∧ DataW.trod enc P w base spare held n e cs = some y) := by
  obtain ⟨fuel, hf⟩ := h
  rcases open_slice ht hf with ⟨hcs, _⟩ | ⟨x, len', cap', m, n, D, Pl, hcs, _, hl, hm, hmm, _, hi⟩
  · simp [Value.cells] at hcs
    obtain ⟨_, rfl, _⟩ := hcs
    exact ⟨by omega, .inl rfl⟩
  · simp [Value.cells] at hcs
    obtain ⟨rfl, rfl, rfl⟩ := hcs
    refine ⟨by unfold maxLen at hm; omega, ?_⟩
    by_cases h0 : len = 0
    · exact .inl h0
    have key : ∀ i, i < len → ∃ (cs : List Value) (y : DataW H × List MemPlace) (n : Nat), cs.length = P.cellsOf e ∧ (∀ j, j < P.cellsOf e → w.cell? (x.add (i * P.cellsOf e + j)) = cs[j]?) ∧ DataW.trod enc P w base spare held n e cs = some y := by
      intro i hlt
      obtain ⟨cs, hc, htr⟩ := hi i (by split at hmm <;> omega)
      obtain ⟨_, hlen, hat⟩ := World.cells?_some hc
      refine ⟨cs, _, _, hlen, fun j hj => ?_, htr⟩
      have h1 := hat j hj
      rw [add_add] at h1
      exact h1
    right
    obtain ⟨cs, _, _, hlen, hv, _⟩ := key 0 (by omega)
    have hv := hv 0 hpos
    rw [List.getElem?_eq_getElem (by omega)] at hv
    have hx : x.add (0 * P.cellsOf e + 0) = x := by unfold Addr.add; simp
    rw [hx] at hv
    have hp := addr_plain hv
    refine ⟨x.block, x.off, by rw [← hp], fun i hi => ?_⟩
    obtain ⟨cs, y, n, h1, h2, h3⟩ := key i hi
    refine ⟨cs, y, n, h1, fun j hj => ?_, h3⟩
    have := h2 j hj
    rw [hp, add_plain] at this
    exact this
/-- Each field of a struct of one-cell fields reads by itself. -/
theorem struct_one {t : TypeId} {fs : Array Field} {cs : List Value} {fuel : Nat} {x : DataW H × List MemPlace} (ht : P.underlying t = some (.struct fs)) (hone : oneCellFields P fs = true) (hC : P.cellsOf t = fs.size)
    (h : DataW.trod enc P w base spare held fuel t cs = some x) : cs.length = fs.size ∧ ∀ (j : Nat) (f : Field), fs[j]? = some f →
      ∃ (v : Value) (y : DataW H × List MemPlace) (n : Nat), cs[j]? = some v ∧ DataW.trod enc P w base spare held n f.type [v] = some y := by
  obtain ⟨ys, n', _, _, hlen, hyl, hfld⟩ := DataW.trod_struct ht h
  refine ⟨by rw [hlen, hC], fun j f hj => ?_⟩
  obtain ⟨hoff, hcell⟩ := hone_of hone j f hj
  have hjl : j < fs.size := (Array.getElem?_eq_some_iff.1 hj).1
  have hjc : j < cs.length := by rw [hlen, hC]; exact hjl
  have hr := hfld j f hj
  rw [hoff, hcell, List.drop_eq_getElem_cons hjc] at hr
  exact ⟨cs[j], _, n', List.getElem?_eq_getElem hjc, hr.trans (List.getElem?_eq_getElem (by omega))⟩
end
def Num64 (x : Int) : Prop := -9223372036854775808 ≤ x ∧ x ≤ 9223372036854775807
/-- What a call's parts are. -/
structure SysOk (c : SysQ) : Prop where
  no : Num64 c.no
  a : Num64 c.a
  b : Num64 c.b
  s : c.s.size ≤ 9223372036854775807
  t : c.t.size ≤ 9223372036854775807
  p : ∃ a l n, c.p = .slice a l n
theorem SysOk.one {c : SysQ} (h : SysOk c) : c.p.oneCell' = true := by
  obtain ⟨_, _, _, e⟩ := h.p
  rw [e]; rfl
def sysC (c : SysQ) : List Value := [.int .i64 c.no, .int .i64 c.a, .int .i64 c.b, .string c.s, .string c.t, c.p]
set_option maxRecDepth 100000 in
theorem sys_fields {H : Type} {enc : TypeId × Value → H} {W : World} {base : Nat} {sp : Nat → Bool} {held : Bool} {cs : List Value} {fuel : Nat} {x : DataW H × List MemPlace}
    (h : DataW.trod enc Tryz.prog W base sp held fuel 36 cs = some x) : ∃ c, SysOk c ∧ cs = sysC c := by
  obtain ⟨hl, hf⟩ := struct_one Tryz.underlying36 (by kernel_rfl) (by kernel_rfl) h
  obtain ⟨v0, y0, n0, c0, t0⟩ := hf 0 _ rfl
  obtain ⟨v1, y1, n1, c1, t1⟩ := hf 1 _ rfl
  obtain ⟨v2, y2, n2, c2, t2⟩ := hf 2 _ rfl
  obtain ⟨v3, y3, n3, c3, t3⟩ := hf 3 _ rfl
  obtain ⟨v4, y4, n4, c4, t4⟩ := hf 4 _ rfl
  obtain ⟨v5, y5, n5, c5, t5⟩ := hf 5 _ rfl
  obtain ⟨x0, e0, _, f0⟩ := DataW.trod_int Tryz.underlying3 t0
  obtain ⟨x1, e1, _, f1⟩ := DataW.trod_int Tryz.underlying3 t1
  obtain ⟨x2, e2, _, f2⟩ := DataW.trod_int Tryz.underlying3 t2
  obtain ⟨x3, e3, _, s3⟩ := DataW.trod_string Tryz.underlying9 t3
  obtain ⟨x4, e4, _, s4⟩ := DataW.trod_string Tryz.underlying9 t4
  have h5 : ∃ a l n, v5 = .slice a l n := by
    rcases open_slice Tryz.underlying34 t5 with ⟨e, _⟩ | ⟨_, _, _, _, _, _, _, e, _⟩
    · simp only [List.cons.injEq, and_true] at e
      exact ⟨_, _, _, e⟩
    · simp only [List.cons.injEq, and_true] at e
      exact ⟨_, _, _, e⟩
  simp only [List.cons.injEq, and_true] at e0 e1 e2 e3 e4
  subst e0 e1 e2 e3 e4
  unfold maxLen at s3 s4
  refine ⟨⟨x0, x1, x2, x3, x4, v5⟩, ⟨bounds_i64 f0, bounds_i64 f1, bounds_i64 f2, s3, s4, h5⟩, ?_⟩
  apply List.ext_getElem?
  intro i
  rcases i with _ | _ | _ | _ | _ | _ | i
  · exact c0
  · exact c1
  · exact c2
  · exact c3
  · exact c4
  · exact c5
  · rw [List.getElem?_eq_none (by have : cs.length = 6 := hl; omega), List.getElem?_eq_none (by simp [sysC])]
/-- A row of steps. -/
def StepRow (W : World) (a : Option Addr) (len : Nat) : Prop :=
  len ≤ 9223372036854775807 ∧ (len = 0 ∨ ∃ cb co, a = some ⟨cb, co, none⟩ ∧ ∀ k, k < len → ∃ (pid : Int) (c : SysQ), Num64 pid ∧ SysOk c ∧ ∀ j, j < 7 → W.cell? ⟨cb, co + (k * 7 + j), none⟩ = (Value.int .i64 pid :: sysC c)[j]?)
set_option maxRecDepth 100000 in
theorem steps_row {H : Type} {enc : TypeId × Value → H} {W : World} {a : Option Addr} {len cap : Nat} {d : DataW H} {ps : List MemPlace} {base : Nat} {sp : Nat → Bool} {held : Bool}
    (h : DataW.Trod enc Tryz.prog W base sp held 38 (.slice a len cap) d ps) : StepRow W a len := by
  have hC : Tryz.prog.cellsOf 41 = 7 := by kernel_rfl
  obtain ⟨h1, h2⟩ := elem_row Tryz.underlying38 (by rw [hC]; decide) h
  rw [hC] at h2
  refine ⟨h1, h2.imp id fun ⟨cb, co, e, hk⟩ => ⟨cb, co, e, fun k hlt => ?_⟩⟩
  obtain ⟨cs, y, n, g1, g2, g3⟩ := hk k hlt
  obtain ⟨ys, n', _, _, hlen, hyl, hfld⟩ := DataW.trod_struct Tryz.underlying41 g3
  have f0 := hfld 0 _ rfl
  have f1 := hfld 1 _ rfl
  have hy : ys.length = 2 := hyl
  rw [List.getElem?_eq_getElem (by omega)] at f0 f1
  have f0' : DataW.trod enc Tryz.prog W base sp held n' 3 (cs.take 1) = some ys[0] := f0
  have f1' : DataW.trod enc Tryz.prog W base sp held n' 36 ((cs.drop 1).take 6) = some ys[1] := f1
  obtain ⟨x0, e0, _, b0⟩ := DataW.trod_int Tryz.underlying3 f0'
  obtain ⟨c, hc, e1⟩ := sys_fields f1'
  refine ⟨x0, c, bounds_i64 b0, hc, fun j hj => ?_⟩
  rw [g2 j hj]
  congr 1
  have e2 : (cs.drop 1).take 6 = cs.drop 1 := List.take_of_length_le (by rw [List.length_drop]; omega)
  rw [e2] at e1
  have := List.take_append_drop 1 cs
  rw [e0, e1] at this
  exact this.symm
end Go.Proofs.YtffekmjoenppaaaGreatDoor
