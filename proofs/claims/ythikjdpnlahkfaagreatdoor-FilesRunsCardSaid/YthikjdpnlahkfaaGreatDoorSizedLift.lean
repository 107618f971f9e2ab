/- What a walk is told of an argument: a row of structs of one-cell fields. No condition. -/
import Derived.Test.YthikjdpnlahkfaaGreatDoorBase
import Derived.ProofKit
import Derived.OpenShut
import Derived.ShutString
import Derived.ChangeOld
import Derived.Deep.Slices
import Derived.Deep.Fields
import Derived.ChangeSame
import Derived.SizedLaws
import Derived.SliceStrings
namespace Go.Proofs.YthikjdpnlahkfaaGreatDoor
open Go.ChangeShapes Go.WideShapes Go.ChangeAt Go.RowKit Go.Deep

section
variable {H : Type} {enc : TypeId × Value → H} {P : Program} {w : World} {base : Nat} {spare : Nat → Bool} {held : Bool}

/-- Each field of each element lies in a cell, and reads by itself. -/
theorem struct_row {t e : TypeId} {fs : Array Field} {a : Option Addr} {len cap : Nat} {d : DataW H} {ps : List MemPlace} (ht : P.underlying t = some (.slice e)) (he : P.underlying e = some (.struct fs))
    (hone : oneCellFields P fs = true) (hC : P.cellsOf e = fs.size) (h : DataW.Trod enc P w base spare held t (.slice a len cap) d ps) :
    len ≤ 9223372036854775807 ∧ (len = 0 ∨ ∃ x : Addr, a = some x ∧ ∀ i, i < len → ∀ (j : Nat) (f : Field), fs[j]? = some f →
      ∃ (v : Value) (y : DataW H × List MemPlace) (n : Nat), w.cell? (x.add (i * fs.size + j)) = some v ∧ DataW.trod enc P w base spare held n f.type [v] = some y) := by
  obtain ⟨fuel, hf⟩ := h
  rcases open_slice ht hf with ⟨hcs, _⟩ | ⟨x, len', cap', m, n, D, Pl, hcs, _, hl, hm, hmm, _, hi⟩
  · simp [Value.cells] at hcs
    obtain ⟨_, rfl, _⟩ := hcs
    exact ⟨by omega, .inl rfl⟩
  · simp [Value.cells] at hcs
    obtain ⟨rfl, rfl, rfl⟩ := hcs
    refine ⟨by unfold maxLen at hm; omega, .inr ⟨x, rfl, fun i hlt j f hj => ?_⟩⟩
    obtain ⟨cs, hc, htr⟩ := hi i (by split at hmm <;> omega)
    obtain ⟨ys, n', _, _, hlen, hyl, hfld⟩ := DataW.trod_struct he htr
    obtain ⟨_, _, hat⟩ := World.cells?_some hc
    obtain ⟨hoff, hcell⟩ := hone_of hone j f hj
    have hjl : j < fs.size := (Array.getElem?_eq_some_iff.1 hj).1
    have hjc : j < cs.length := by rw [hlen, hC]; exact hjl
    have hr := hfld j f hj
    rw [hoff, hcell, List.drop_eq_getElem_cons hjc] at hr
    have hys : ys[j]? = some (ys[j]'(by omega)) := List.getElem?_eq_getElem (by omega)
    refine ⟨cs[j], _, n', ?_, hr.trans hys⟩
    have h1 := hat j (by rw [hC]; exact hjl)
    rw [add_add, hC, List.getElem?_eq_getElem hjc] at h1
    exact h1

/-- An address whose cell can be read has no spot. -/
theorem addr_plain {x : Addr} {v : Value} (h : w.cell? x = some v) : x = ⟨x.block, x.off, none⟩ := by
  cases hs : x.spot with
  | none => cases x; simp_all
  | some s =>
    unfold World.cell? at h
    split at h <;> simp_all
theorem add_plain (b o k : Nat) : (⟨b, o, none⟩ : Addr).add k = ⟨b, o + k, none⟩ := by
  unfold Addr.add
  split
  · subst_vars; rfl
  · rfl
/-- A row of structs in a plain place. -/
theorem struct_row' {t e : TypeId} {fs : Array Field} {a : Option Addr} {len cap : Nat} {d : DataW H} {ps : List MemPlace} (ht : P.underlying t = some (.slice e)) (he : P.underlying e = some (.struct fs)) (hpos : 0 < fs.size)
    (hone : oneCellFields P fs = true) (hC : P.cellsOf e = fs.size) (h : DataW.Trod enc P w base spare held t (.slice a len cap) d ps) :
    len ≤ 9223372036854775807 ∧ (len = 0 ∨ ∃ cb co : Nat, a = some ⟨cb, co, none⟩ ∧ ∀ i, i < len → ∀ (j : Nat) (f : Field), fs[j]? = some f →
      ∃ (v : Value) (y : DataW H × List MemPlace) (n : Nat), w.cell? ⟨cb, co + (i * fs.size + j), none⟩ = some v ∧ DataW.trod enc P w base spare held n f.type [v] = some y) := by
  obtain ⟨h1, h2⟩ := struct_row ht he hone hC h
  refine ⟨h1, ?_⟩
  rcases h2 with h2 | ⟨x, rfl, h2⟩
  · exact .inl h2
  · by_cases h0 : len = 0
    · exact .inl h0
    · right
      obtain ⟨v, _, _, hv, _⟩ := h2 0 (by omega) 0 fs[0] (Array.getElem?_eq_getElem hpos)
      have hx : x.add (0 * fs.size + 0) = x := by unfold Addr.add; simp
      rw [hx] at hv
      have hp := addr_plain hv
      refine ⟨x.block, x.off, by rw [← hp], fun i hi j f hj => ?_⟩
      obtain ⟨v, y, n, hv, hy⟩ := h2 i hi j f hj
      rw [hp, add_plain] at hv
      exact ⟨v, y, n, hv, hy⟩
end
end Go.Proofs.YthikjdpnlahkfaaGreatDoor

/- What a walk is told of an argument, with sizes: a row of structs of one-cell fields; how much each part takes. No condition. -/
namespace Go.Proofs.YthikjdpnlahkfaaGreatDoor
open Go.ChangeShapes Go.WideShapes Go.ChangeAt Go.RowKit Go.Deep

section
variable {H : Type} {enc : TypeId × Value → H} {P : Program} {w : World} {base : Nat} {spare : Nat → Bool} {held : Bool}

theorem weightsAll_mem {e : TypeId} : ∀ {l : List (DataW H)} {d : DataW H}, d ∈ l → ∀ n ∈ d.weights P e, n ∈ DataW.weightsAll P e l
  | x :: r, d, hd, n, hn => by
    simp only [DataW.weightsAll, List.mem_append]
    rcases List.mem_cons.1 hd with rfl | hd
    · exact .inl hn
    · exact .inr (weightsAll_mem hd n hn)
/-- Each field of each element lies in a cell, reads by itself, and takes no more than the whole. -/
theorem struct_row_w {t e : TypeId} {fs : Array Field} {a : Option Addr} {len cap : Nat} {d : DataW H} {ps : List MemPlace} (ht : P.underlying t = some (.slice e)) (he : P.underlying e = some (.struct fs)) (hpos : 0 < fs.size)
    (hone : oneCellFields P fs = true) (hC : P.cellsOf e = fs.size) (h : DataW.Trod enc P w base spare held t (.slice a len cap) d ps) :
    len ≤ 9223372036854775807 ∧ (len = 0 ∨ ∃ cb co : Nat, a = some ⟨cb, co, none⟩ ∧ ∀ i, i < len → ∀ (j : Nat) (f : Field), fs[j]? = some f →
      ∃ (v : Value) (y : DataW H × List MemPlace) (n : Nat), w.cell? ⟨cb, co + (i * fs.size + j), none⟩ = some v ∧ DataW.trod enc P w base spare held n f.type [v] = some y ∧ ∀ m ∈ y.1.weights P f.type, m ∈ d.weights P t) := by
  obtain ⟨fuel, hf⟩ := h
  rcases open_slice ht hf with ⟨hcs, _⟩ | ⟨x, len', cap', m, n, D, Pl, hcs, _, hl, hm, hmm, hd, hi⟩
  · simp [Value.cells] at hcs
    obtain ⟨_, rfl, _⟩ := hcs
    exact ⟨by omega, .inl rfl⟩
  · simp [Value.cells] at hcs
    obtain ⟨rfl, rfl, rfl⟩ := hcs
    refine ⟨by unfold maxLen at hm; omega, ?_⟩
    by_cases h0 : len = 0
    · exact .inl h0
    have key : ∀ i, i < len → ∀ (j : Nat) (f : Field), fs[j]? = some f →
      ∃ (v : Value) (y : DataW H × List MemPlace) (n : Nat), w.cell? (x.add (i * fs.size + j)) = some v ∧ DataW.trod enc P w base spare held n f.type [v] = some y ∧ ∀ m ∈ y.1.weights P f.type, m ∈ d.weights P t := by
      intro i hlt j f hj
      obtain ⟨cs, hc, htr⟩ := hi i (by split at hmm <;> omega)
      obtain ⟨ys, n', _, hx, hlen, hyl, hfld⟩ := DataW.trod_struct he htr
      obtain ⟨_, _, hat⟩ := World.cells?_some hc
      obtain ⟨hoff, hcell⟩ := hone_of hone j f hj
      have hjl : j < fs.size := (Array.getElem?_eq_some_iff.1 hj).1
      have hjc : j < cs.length := by rw [hlen, hC]; exact hjl
      have hr := hfld j f hj
      rw [hoff, hcell, List.drop_eq_getElem_cons hjc] at hr
      have hys : ys[j]? = some (ys[j]'(by omega)) := List.getElem?_eq_getElem (by omega)
      refine ⟨cs[j], _, n', ?_, hr.trans hys, fun q hq => ?_⟩
      · have h1 := hat j (by rw [hC]; exact hjl)
        rw [add_add, hC, List.getElem?_eq_getElem hjc] at h1
        exact h1
      · have e1 : d = .slice ((List.range len).map D) ((List.range (m - len)).map fun j => D (len + j)) := by
          have := congrArg Prod.fst hd
          exact this
        rw [e1]
        simp only [DataW.weights, ht, List.mem_cons, List.mem_append]
        refine .inr (.inl (weightsAll_mem (d := D i) (List.mem_map.2 ⟨i, List.mem_range.2 hlt, rfl⟩) q ?_))
        have e2 : D i = .agg (ys.map (·.1)) := congrArg Prod.fst hx
        rw [e2]
        simp only [DataW.weights, he]
        exact DataW.weights_mem_each (j := j) (t := f.type) (d := (ys[j]'(by omega)).1) (by simp [hj]) (by rw [List.getElem?_map, hys]; rfl) q hq
    right
    obtain ⟨v, _, _, hv, _⟩ := key 0 (by omega) 0 fs[0] (Array.getElem?_eq_getElem hpos)
    have hx : x.add (0 * fs.size + 0) = x := by unfold Addr.add; simp
    rw [hx] at hv
    have hp := addr_plain hv
    refine ⟨x.block, x.off, by rw [← hp], fun i hi j f hj => ?_⟩
    obtain ⟨v, y, n, hv, hy⟩ := key i hi j f hj
    rw [hp, add_plain] at hv
    exact ⟨v, y, n, hv, hy⟩
end
theorem reach47 {n : Nat} (h : n ≤ reachBytes) : n ≤ 140737488355328 := by have := reachBytes_lt; omega
end Go.Proofs.YthikjdpnlahkfaaGreatDoor
