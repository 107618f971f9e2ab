/- Rows of strings in memory: what they hold, cuts, what append may take from. No condition. -/
import Derived.Test.YthikjdpnlahkfaaGreatDoorRegionTree
import Derived.Test.YthikjdpnlahkfaaGreatDoorProg
import Derived.WalkKit
import Derived.Deep.LoopGhost
import Derived.Handy
import Derived.Deep.Cut
import Derived.Maps.AppendAt
import Derived.Laws.Rows
import Derived.Lib.SliceRun
namespace Go.Proofs.YthikjdpnlahkfaaGreatDoor
open Go.RowKit

theorem ba_back (s : ByteArray) : (⟨s.data.toList.toArray⟩ : ByteArray) = s := by cases s; simp
def ArgsV (w : World) (S : Nat → Prop) (v : Value) (l : List ByteArray) : Prop :=
  ∃ a cap, v = .slice a l.length cap ∧ l.length ≤ cap ∧ (a = none → cap = 0) ∧ (l = [] ∨ ∃ g o, a = some ⟨g, o, none⟩ ∧ S g ∧ g < w.heap.size ∧ ∀ k (hk : k < l.length), w.cell? ⟨g, o + k, none⟩ = some (.string l[k]))
theorem ArgsV.frame {w w' : World} {S S' : Nat → Prop} {v : Value} {l : List ByteArray} (h : ArgsV w S v l) (hf : Fr S' w w') (hd : ∀ k, k < w.heap.size → S k → ¬ S' k) : ArgsV w' S v l := by
  obtain ⟨a, cap, h1, h2, h3, h4⟩ := h
  refine ⟨a, cap, h1, h2, h3, h4.imp id ?_⟩
  rintro ⟨g, o, h5, h6, h7, h8⟩
  exact ⟨g, o, h5, h6, Nat.lt_of_lt_of_le h7 hf.size, fun k hk => (World.cell?_of_block (w := w) (a := ⟨g, o + k, none⟩) (hf.block g h7 (hd g h7 h6))).trans (h8 k hk)⟩
def strs (l : List ByteArray) : List Value := l.map .string
theorem ArgsV.form {w : World} {S : Nat → Prop} {v : Value} {l : List ByteArray} (h : ArgsV w S v l) : ∃ a cap, v = .slice a l.length cap := by
  obtain ⟨a, cap, h1, _⟩ := h
  exact ⟨a, cap, h1⟩
theorem ArgsV.mono {w : World} {S S' : Nat → Prop} {v : Value} {l : List ByteArray} (h : ArgsV w S v l) (hS : ∀ k, k < w.heap.size → S k → S' k) : ArgsV w S' v l := by
  obtain ⟨a, cap, h1, h2, h3, h4⟩ := h
  refine ⟨a, cap, h1, h2, h3, h4.imp id ?_⟩
  rintro ⟨g, o, h5, h6, h7, h8⟩
  exact ⟨g, o, h5, hS g h7 h6, h7, h8⟩
theorem own_args {w : World} {base n : Nat} {v : Value} {l : List ByteArray} {S : Nat → Prop} (h : w.ownsRow base 9 1 v n (strs l)) (hn : n = l.length) (hS : ∀ k, base ≤ k → S k) : ArgsV w S v l := by
  subst hn
  have hh := h
  obtain ⟨_, h1 | ⟨g, cap, cur, h1, hb, hg, h2, _⟩⟩ := h
  · exact ⟨none, 0, by rw [h1.1, h1.2], by rw [h1.2]; exact Nat.le_refl _, fun _ => rfl, .inl (List.eq_nil_of_length_eq_zero h1.2)⟩
  · subst h1
    refine ⟨_, _, rfl, h2, fun e => by simp at e, ?_⟩
    by_cases h0 : l.length = 0
    · exact .inl (List.eq_nil_of_length_eq_zero h0)
    · obtain ⟨g', he, h3, h4, h5⟩ := own_cells hh (by omega)
      refine .inr ⟨g', 0, he, hS _ h3, h4, fun k hk => ?_⟩
      rw [Nat.zero_add]
      exact h5 k _ (by simp [strs, hk])
theorem ArgsV.at {w : World} {S : Nat → Prop} {a : Option Addr} {n cap : Nat} {l : List ByteArray} (h : ArgsV w S (.slice a n cap) l) : n = l.length ∧ n ≤ cap ∧ (n = 0 ∨ ∃ g o, a = some ⟨g, o, none⟩ ∧ ∀ k (hk : k < l.length), w.cell? ⟨g, o + k, none⟩ = some (.string l[k])) := by
  obtain ⟨a', cap', h1, h2, h3, h4⟩ := h
  cases h1
  refine ⟨rfl, h2, ?_⟩
  rcases h4 with h4 | ⟨g, o, h5, _, _, h8⟩
  · exact .inl (by rw [h4]; rfl)
  · exact .inr ⟨g, o, h5, h8⟩
theorem ba_bne {s t : ByteArray} (h : ¬ s = t) : (s.toList == t.toList) = false := by
  rw [ByteArray.toList_eq, ByteArray.toList_eq, beq_eq_false_iff_ne]
  intro e
  apply h
  cases s; cases t
  simp only [ByteArray.mk.injEq]
  exact Array.toList_inj.1 e
theorem ba_of_data {s t : ByteArray} (h : s.data.toList = t.data.toList) : s = t := by
  cases s; cases t
  simp only [ByteArray.mk.injEq]
  exact Array.toList_inj.1 h
theorem ArgsV.drop {w : World} {S : Nat → Prop} {a : Option Addr} {n cap : Nat} {l : List ByteArray} (h : ArgsV w S (.slice a n cap) l) (k : Nat) (hk : k ≤ n) :
    ArgsV w S (.slice (a.map (fun x => x.add k)) (n - k) (cap - k)) (l.drop k) := by
  obtain ⟨a', cap', h1, h2, h3, h4⟩ := h
  cases h1
  refine ⟨a.map (fun x => x.add k), cap - k, by simp, by simp; omega, fun e => by have := h3 (by simpa using e); omega, ?_⟩
  rcases h4 with h4 | ⟨g, o, h5, h6, h7, h8⟩
  · exact .inl (by simp [h4])
  · subst h5
    refine .inr ⟨g, o + k, by simp [Addr.add_lit], h6, h7, fun j hj => ?_⟩
    simp only [List.length_drop] at hj
    rw [List.getElem_drop, Nat.add_assoc]
    exact h8 (k + j) (by omega)
def SrcOk (w : World) (sa : Option Addr) (m c : Nat) (news : List Value) : Prop := (sa = none ∧ m = 0 ∧ c = 0) ∨ ∃ ad, sa = some ad ∧ ∀ j u, news[j]? = some u → w.cell? (ad.add j) = some u
theorem SrcOk.frame {w w' : World} {sa : Option Addr} {m c : Nat} {news : List Value} (h : SrcOk w sa m c news) (hf : Fr (fun _ => False) w w') : SrcOk w' sa m c news := by
  refine h.imp id ?_
  rintro ⟨ad, h1, h2⟩
  exact ⟨ad, h1, fun j u hj => (World.cell?_of_block (hf.block _ (World.block_lt_of_cell? _ _ (h2 j u hj)) (fun h => h))).trans (h2 j u hj)⟩
theorem strs_one {l : List ByteArray} : ∀ u ∈ strs l, u.oneCell' = true := by
  intro u hu
  simp only [strs, List.mem_map] at hu
  obtain ⟨s, _, rfl⟩ := hu
  rfl
theorem ArgsV.src {w : World} {S : Nat → Prop} {a : Option Addr} {n cap : Nat} {l : List ByteArray} (h : ArgsV w S (.slice a n cap) l) : SrcOk w a n cap (strs l) := by
  obtain ⟨a', cap', h1, h2, h3, h4⟩ := h
  cases h1
  cases a with
  | none => have := h3 rfl; exact .inl ⟨rfl, by omega, this⟩
  | some x =>
    right
    refine ⟨x, rfl, fun j u hj => ?_⟩
    rcases h4 with h4 | ⟨g, o, h5, _, _, h8⟩
    · subst h4; simp [strs] at hj
    · cases h5
      rw [Addr.add_lit]
      simp only [strs, List.getElem?_map, Option.map_eq_some_iff] at hj
      obtain ⟨s, hs, rfl⟩ := hj
      obtain ⟨hk, rfl⟩ := List.getElem?_eq_some_iff.1 hs
      exact h8 j hk
theorem ArgsV.cut {w : World} {S : Nat → Prop} {a : Option Addr} {n cap : Nat} {l : List ByteArray} (h : ArgsV w S (.slice a n cap) l) (k : Nat) (hk : k ≤ n) :
    ∃ sa sc, (∀ w', (Instr.sliceAt 60 (.slice a n cap) (some (.int .i64 k)) none none).run Tryz.prog w' = .ok (.slice sa (n - k) sc) w') ∧ ArgsV w S (.slice sa (n - k) sc) (l.drop k) := by
  have hd := h.drop k hk
  obtain ⟨hn, hc, _⟩ := h.at
  have hsz : ∀ w', (sizeOf 9).run Tryz.prog w' = .ok 1 w' := fun w' => by kernel_rfl
  have he : Tryz.prog.elem 60 = 9 := by kernel_rfl
  have ht : Tryz.prog.underlying 60 = some (.slice (Tryz.prog.elem 60)) := by rw [he]; exact Tryz.underlying60
  have key : ∀ w', (Instr.sliceAt 60 (.slice a n cap) (some (.int .i64 k)) none none).run Tryz.prog w' = .ok (sliced a k n cap 1) w' := fun w' => by
    rw [run_sliceAt_slice (h := ht), run_slice_l (ht := ht) (h0 := by omega) (h1 := by omega), he, hsz]
    simp
  by_cases hck : cap = k
  · refine ⟨a, cap - k, fun w' => by rw [key]; simp [sliced, hck], ?_⟩
    have hl0 : l.drop k = [] := List.drop_of_length_le (by omega)
    rw [hl0]
    exact ⟨a, cap - k, by simp; omega, by simp, fun _ => by omega, .inl rfl⟩
  · exact ⟨_, _, fun w' => by rw [key]; simp [sliced, hck], hd⟩
theorem cut_highS {a : Option Addr} {n cap k : Nat} (hk : k ≤ n) (hn : n ≤ cap) : ∀ w', (Instr.sliceAt 60 (.slice a n cap) none (some (.int .i64 k)) none).run Tryz.prog w' = .ok (.slice a k cap) w' := by
  intro w'
  have hsz : ∀ w', (sizeOf 9).run Tryz.prog w' = .ok 1 w' := fun w' => by kernel_rfl
  have he : Tryz.prog.elem 60 = 9 := by kernel_rfl
  have ht : Tryz.prog.underlying 60 = some (.slice (Tryz.prog.elem 60)) := by rw [he]; exact Tryz.underlying60
  rw [run_sliceAt_slice (h := ht), run_slice_h (ht := ht) (h0 := by omega) (h2 := by omega), he, hsz]
  cases a <;> simp [sliced, Addr.add]
end Go.Proofs.YthikjdpnlahkfaaGreatDoor
