/- Rows of api.Char; pattern.starts. Conditions: the contracts' own premises. -/
import Derived.Test.YtlhmmiolnbgloaaGreatDoorRegionQ
import Derived.Test.YtlhmmiolnbgloaaGreatDoorRegionQ
import Derived.Test.YtlhmmiolnbgloaaGreatDoorProg
import Derived.BigQuiet
import Derived.Laws.StructEq
import Derived.Deep.CutBlock
import Derived.Deep.DeepCutAuto
import Derived.Test.YtlhmmiolnbgloaaGreatDoorSizedLift
import Derived.RangeFuncNested
import Derived.RangeFuncBound
import Derived.RangeFuncCalls
import Derived.RangeFuncLeaves
import Derived.OrdersIn
namespace Go.Proofs.YtlhmmiolnbgloaaGreatDoor
open Go.RowKit

/-- A value that is a slice of pattern's bytes, in blocks of T. -/
def ChV (w : World) (T : Nat → Prop) (v : Value) (p : List Ch) : Prop :=
  ∃ a c, v = .slice a p.length c ∧ p.length ≤ c ∧ c ≤ 9223372036854775807 ∧ (p = [] ∨ ∃ g o, a = some ⟨g, o, none⟩ ∧ T g ∧ g < w.heap.size ∧ ∀ j (h : j < p.length), w.cell? ⟨g, o + j * 2, none⟩ = some (.int .u8 p[j].b.toNat) ∧ w.cell? ⟨g, o + j * 2 + 1, none⟩ = some (.bool p[j].q))
theorem ChV.form {w : World} {T : Nat → Prop} {v : Value} {p : List Ch} (h : ChV w T v p) : ∃ a c, v = .slice a p.length c := by
  obtain ⟨a, c, h1, _⟩ := h
  exact ⟨a, c, h1⟩
theorem ChV.at {w : World} {T : Nat → Prop} {a : Option Addr} {n c : Nat} {p : List Ch} (h : ChV w T (.slice a n c) p) : n = p.length ∧ n ≤ c ∧ c ≤ 9223372036854775807 ∧ (p = [] ∨ ∃ g o, a = some ⟨g, o, none⟩ ∧ T g ∧ g < w.heap.size ∧ ∀ j (h : j < p.length), w.cell? ⟨g, o + j * 2, none⟩ = some (.int .u8 p[j].b.toNat) ∧ w.cell? ⟨g, o + j * 2 + 1, none⟩ = some (.bool p[j].q)) := by
  obtain ⟨a', c', h1, h2, h3, h4⟩ := h
  cases h1
  exact ⟨rfl, h2, h3, h4⟩
theorem ChV.frame {w w' : World} {S T : Nat → Prop} {v : Value} {p : List Ch} (h : ChV w T v p) (hf : Fr S w w') (hd : ∀ k, k < w.heap.size → T k → ¬ S k) : ChV w' T v p := by
  obtain ⟨a, c, h1, h2, h3, h4⟩ := h
  refine ⟨a, c, h1, h2, h3, h4.imp id ?_⟩
  rintro ⟨g, o, h5, h6, h7, h8⟩
  refine ⟨g, o, h5, h6, Nat.lt_of_lt_of_le h7 hf.size, fun j hj => ?_⟩
  have hb := hf.block g h7 (hd g h7 h6)
  rw [World.cell?_of_block (w := w) (a := ⟨g, o + j * 2, none⟩) hb, World.cell?_of_block (w := w) (a := ⟨g, o + j * 2 + 1, none⟩) hb]
  exact h8 j hj
theorem ChV.still {w w' : World} {T : Nat → Prop} {v : Value} {p : List Ch} (h : ChV w T v p) (hf : Fr (fun _ => False) w w') : ChV w' T v p := h.frame hf fun _ _ _ e => e
theorem ChV.mono {w : World} {S T : Nat → Prop} {v : Value} {p : List Ch} (h : ChV w S v p) (hd : ∀ k, k < w.heap.size → S k → T k) : ChV w T v p := by
  obtain ⟨a, c, h1, h2, h3, h4⟩ := h
  refine ⟨a, c, h1, h2, h3, h4.imp id ?_⟩
  rintro ⟨g, o, h5, h6, h7, h8⟩
  exact ⟨g, o, h5, hd g h7 h6, h7, h8⟩
/-- A piece of it. -/
theorem ChV.cut {w : World} {T : Nat → Prop} {g o n c : Nat} {p : List Ch} (h : ChV w T (.slice (some ⟨g, o, none⟩) n c) p) {l k : Nat} (hl : l ≤ k) (hk : k ≤ p.length) {m : Nat} (hm : m = k - l) :
    ChV w T (.slice (if c = l then some ⟨g, o, none⟩ else some ⟨g, o + l * 2, none⟩) m (c - l)) ((p.take k).drop l) := by
  obtain ⟨h1, h2, h3, h4⟩ := h.at
  have hlen : ((p.take k).drop l).length = m := by rw [List.length_drop, List.length_take]; omega
  refine ⟨_, _, by rw [hlen], by omega, by omega, ?_⟩
  by_cases e : l = k
  · left
    rw [List.drop_eq_nil_iff, List.length_take]
    omega
  · right
    have hne : c ≠ l := by omega
    rcases h4 with h4 | ⟨g', o', h5, h6, h7, h8⟩
    · rw [h4] at hk; exact absurd hk (by simp; omega)
    · cases h5
      refine ⟨g, o + l * 2, by rw [if_neg hne], h6, h7, fun j hj => ?_⟩
      rw [hlen] at hj
      have h9 := h8 (l + j) (by omega)
      have e1 : ((p.take k).drop l)[j]'(by rw [hlen]; exact hj) = p[l + j] := by
        rw [List.getElem_drop, List.getElem_take]
      rw [e1]
      rw [show o + l * 2 + j * 2 = o + (l + j) * 2 by omega]
      exact h9
theorem take_un {p : List Ch} {s : List UInt8} {k : Nat} (h : p.take k = (s.take k).map un) (hp : k < p.length) (hs : k < s.length) (he : p[k] = un s[k]) : p.take (k + 1) = (s.take (k + 1)).map un := by
  rw [List.take_succ_eq_append_getElem hp, List.take_succ_eq_append_getElem hs, List.map_append, h, he]
  rfl
theorem ch_if {α : Type} (c : Ch) (d : UInt8) (x y : α) : (if (c.b.toNat : Int) = (d.toNat : Int) then if c.q = true then x else y else x) = if c = un d then y else x := by
  obtain ⟨b, q⟩ := c
  by_cases e : b = d
  · subst e
    cases q <;> simp [un]
  · have h1 : ¬ ((b.toNat : Int) = (d.toNat : Int)) := fun h => e (UInt8.toNat_inj.1 (by omega))
    have h2 : ¬ (⟨b, q⟩ : Ch) = un d := fun h => e (congrArg Ch.b h)
    simp only [if_neg h1, if_neg h2]
theorem ch_un {c : Ch} {d : UInt8} (h : ¬ c = un d) (e : (c.b.toNat : Int) = (d.toNat : Int)) : c.q = true := by
  obtain ⟨b, q⟩ := c
  have e' : b = d := UInt8.toNat_inj.1 (by simp only at e; omega)
  subst e'
  cases q
  · exact absurd rfl h
  · rfl
def StPost (w : World) (b : Bool) (e : Ending) (w' : World) : Prop := e = .returned (.bool b) ∧ Fr (fun _ => False) w w'
def StRel (w : World) (p : List Ch) (s : List UInt8) (i : Value) (wr : World) : Prop := ∃ k : Nat, k ≤ s.length ∧ i = .int .i64 k ∧ p.take k = (s.take k).map un ∧ Fr (fun _ => False) w wr
set_option maxRecDepth 100000 in
set_option maxHeartbeats 2000000 in
theorem starts_any (w : World) (T : Nat → Prop) (v : Value) (p : List Ch) (h : ChV w T v p) (s : ByteArray) :
    Calls Tryz.prog 90 #[v, .string s] w (StPost w (startsL p s.data.toList)) := by
  obtain ⟨a, c, rfl⟩ := h.form
  have hsl := ba_len s
  by_cases hlt : p.length < s.size
  · have hfin := hide (show StPost w (startsL p s.data.toList) (.returned (.bool false)) w from ⟨by
      have : startsL p s.data.toList = false := by
        unfold startsL
        rw [decide_eq_false_iff_not]
        intro e
        have := congrArg List.length e
        rw [List.length_take, List.length_map] at this
        omega
      rw [this], Fr.refl _ _⟩)
    have hlt' : (p.length : Int) < (s.size : Int) := by omega
    obtain ⟨_, _, hc63, _⟩ := h.at
    clear h
    go_enter Tryz.func90, Tryz.ntmps90
    go_wp2_with fail
    go_ret
    exact hfin.out
  have A := hide h.at
  have Hsl := hide hsl
  have hlt' : ¬ (p.length : Int) < (s.size : Int) := by omega
  clear h hsl
  go_enter Tryz.func90, Tryz.ntmps90
  go_upto_region 4 with fail
  go_loopw [13] (fun i wr => StRel w p s.data.toList i wr) (fun i _ => s.size - (intOf i).toNat)
  case atStart => exact ⟨0, by omega, rfl, rfl, Fr.refl _ _⟩
  case round =>
    obtain ⟨k, hk, rfl, htk, hfr⟩ := hrel
    rw [Hsl.out] at hk
    by_cases hkl : k < s.size
    · obtain ⟨_, hcap, hcc, B⟩ := A.out
      rcases B with B | ⟨g, o, rfl, _, hg, C⟩
      · have : p.length = 0 := by rw [B]; rfl
        omega
      obtain ⟨e1, e2⟩ := C k (by omega)
      have hb := hfr.block g hg (fun e => e)
      have d1 : wr.drew.cell? ⟨g, o + k * 2, none⟩ = some (.int .u8 (p[k]'(by omega)).b.toNat) := (World.cell?_of_block (w := w) (a := ⟨g, o + k * 2, none⟩) hb).trans e1
      have d2 : wr.drew.cell? ⟨g, o + k * 2 + 1, none⟩ = some (.bool (p[k]'(by omega)).q) := (World.cell?_of_block (w := w) (a := ⟨g, o + k * 2 + 1, none⟩) hb).trans e2
      have hkp : k < p.length := by omega
      have hks : k < s.data.toList.length := by rw [Hsl.out]; exact hkl
      clear e1 e2 C hb
      by_cases hc : p[k] = un s.data.toList[k]
      · have hrel' : StRel w p s.data.toList (.int .i64 ((k : Int) + 1)) wr.drew := ⟨k + 1, by omega, by go_num, take_un htk hkp hks hc, hfr.drew⟩
        have hrel' := hide hrel'
        have Hc := hide hc
        clear htk hc
        go_wp2_with fail
        refine region_still (by kernel_rfl) (by kernel_rfl) ?_
        repeat go_big_quiet_step (fail)
        refine wpQuiet_val (.bool false) rfl (fun w' hS => by
          subst hS
          go_simp
          exact (ch_if _ _ _ _).trans (if_pos Hc.out)) ?_
        refine wpQuiet_nil ?_
        go_wp2
        all_goals exact ⟨hrel'.out, by simp [intOf]; omega⟩
      · have hfin := hide (show StPost w (startsL p s.data.toList) (.returned (.bool false)) wr.drew from ⟨by
          have : startsL p s.data.toList = false := by
            unfold startsL
            rw [decide_eq_false_iff_not]
            intro e
            apply hc
            have := congrArg (fun l => l[k]?) e
            simp only [List.getElem?_take, List.getElem?_map] at this
            rw [if_pos (by rw [Hsl.out]; exact hkl), List.getElem?_eq_getElem hkp, List.getElem?_eq_getElem hks] at this
            exact Option.some.inj this
          rw [this], hfr.drew⟩)
        have Hc := hide hc
        clear htk hc
        go_wp2_with fail
        refine region_still (by kernel_rfl) (by kernel_rfl) ?_
        repeat go_big_quiet_step (fail)
        refine wpQuiet_val (.bool true) rfl (fun w' hS => by
          subst hS
          go_simp
          exact ch_un Hc.out) ?_
        refine wpQuiet_nil ?_
        go_wp2
        go_ret
        exact hfin.out
    · have hk' : k = s.size := by omega
      subst hk'
      have hfin := hide (show StPost w (startsL p s.data.toList) (.returned (.bool true)) wr from ⟨by
        have : startsL p s.data.toList = true := by
          unfold startsL
          rw [decide_eq_true_eq, Hsl.out, htk, List.take_of_length_le (by rw [Hsl.out]; exact Nat.le_refl _)]
        rw [this], hfr⟩)
      clear htk
      go_wp2
      go_ret
      exact hfin.out
end Go.Proofs.YtlhmmiolnbgloaaGreatDoor

/- pattern.member.holds. Conditions: none. -/
namespace Go.Proofs.YtlhmmiolnbgloaaGreatDoor
open Go.RowKit

theorem names6_val : names6 = [[97, 108, 112, 104, 97], [100, 105, 103, 105, 116], [97, 108, 110, 117, 109], [117, 112, 112, 101, 114], [108, 111, 119, 101, 114], [115, 112, 97, 99, 101]] := by kernel_rfl
/-- A member as a value. -/
def memV : Mem → Value
  | .cls 0 => .agg #[.string ⟨#[97, 108, 112, 104, 97]⟩, .int .u8 0, .int .u8 0]
  | .cls 1 => .agg #[.string ⟨#[100, 105, 103, 105, 116]⟩, .int .u8 0, .int .u8 0]
  | .cls 2 => .agg #[.string ⟨#[97, 108, 110, 117, 109]⟩, .int .u8 0, .int .u8 0]
  | .cls 3 => .agg #[.string ⟨#[117, 112, 112, 101, 114]⟩, .int .u8 0, .int .u8 0]
  | .cls 4 => .agg #[.string ⟨#[108, 111, 119, 101, 114]⟩, .int .u8 0, .int .u8 0]
  | .cls _ => .agg #[.string ⟨#[115, 112, 97, 99, 101]⟩, .int .u8 0, .int .u8 0]
  | .rng a z => .agg #[.string ⟨#[]⟩, .int .u8 a.toNat, .int .u8 z.toNat]
def BPost (w : World) (b : Bool) (e : Ending) (w' : World) : Prop := e = .returned (.bool b) ∧ Fr (fun _ => False) w w'
set_option maxRecDepth 100000 in
set_option maxHeartbeats 4000000 in
theorem holds_rng (w : World) (a z : UInt8) (c : UInt8) : Calls Tryz.prog 110 #[memV (.rng a z), .int .u8 c.toNat] w (BPost w (holdsM (.rng a z) c)) := by
  obtain ⟨n, hn⟩ : ∃ n : Nat, n = c.toNat := ⟨_, rfl⟩
  obtain ⟨x, hx⟩ : ∃ n : Nat, n = a.toNat := ⟨_, rfl⟩
  obtain ⟨y, hy⟩ : ∃ n : Nat, n = z.toNat := ⟨_, rfl⟩
  have hfin := hide (show ∀ b : Bool, (b = true ↔ x ≤ n ∧ n ≤ y) → BPost w (holdsM (.rng a z) c) (.returned (.bool b)) (w.alloc (.cells #[.string ⟨#[]⟩, .int .u8 x, .int .u8 y] 168 (0, 0))) from fun b hb => ⟨by
    have : b = holdsM (.rng a z) c := by
      show b = (decide (a.toNat ≤ c.toNat ∧ c.toNat ≤ z.toNat))
      rw [Bool.eq_iff_iff]
      simp only [upB, loB, diB, Bool.or_eq_true, decide_eq_true_eq, ← hx, ← hy, ← hn]
      exact hb
    rw [this], (Fr.refl _ _).alloc _⟩)
  show Calls Tryz.prog 110 #[.agg #[.string ⟨#[]⟩, .int .u8 a.toNat, .int .u8 z.toNat], .int .u8 c.toNat] w _
  simp only [← hx, ← hy, ← hn]
  clear hn hx hy
  go_enter Tryz.func110, Tryz.ntmps110
  go_wp2_with fail
  all_goals go_ret
  all_goals exact hfin.out _ (by simp; omega)
set_option maxRecDepth 100000 in
set_option maxHeartbeats 4000000 in
theorem holds_cls0 (w : World) (c : UInt8) : Calls Tryz.prog 110 #[memV (.cls 0), .int .u8 c.toNat] w (BPost w (holdsM (.cls 0) c)) := by
  obtain ⟨n, hn⟩ : ∃ n : Nat, n = c.toNat := ⟨_, rfl⟩
  have hfin := hide (show ∀ b : Bool, (b = true ↔ (65 ≤ n ∧ n ≤ 90) ∨ (97 ≤ n ∧ n ≤ 122)) → BPost w (holdsM (.cls 0) c) (.returned (.bool b)) (w.alloc (.cells #[.string ⟨#[97, 108, 112, 104, 97]⟩, .int .u8 0, .int .u8 0] 168 (0, 0))) from fun b hb => ⟨by
    have : b = holdsM (.cls 0) c := by
      show b = (upB c || loB c)
      rw [Bool.eq_iff_iff]
      simp only [upB, loB, diB, Bool.or_eq_true, decide_eq_true_eq, ← hn]
      exact hb
    rw [this], (Fr.refl _ _).alloc _⟩)
  show Calls Tryz.prog 110 #[.agg #[.string ⟨#[97, 108, 112, 104, 97]⟩, .int .u8 0, .int .u8 0], .int .u8 c.toNat] w _
  simp only [← hn]
  clear hn
  go_enter Tryz.func110, Tryz.ntmps110
  go_wp2_with fail
  all_goals go_ret
  all_goals exact hfin.out _ (by simp; omega)
set_option maxRecDepth 100000 in
set_option maxHeartbeats 4000000 in
theorem holds_cls1 (w : World) (c : UInt8) : Calls Tryz.prog 110 #[memV (.cls 1), .int .u8 c.toNat] w (BPost w (holdsM (.cls 1) c)) := by
  obtain ⟨n, hn⟩ : ∃ n : Nat, n = c.toNat := ⟨_, rfl⟩
  have hfin := hide (show ∀ b : Bool, (b = true ↔ 48 ≤ n ∧ n ≤ 57) → BPost w (holdsM (.cls 1) c) (.returned (.bool b)) (w.alloc (.cells #[.string ⟨#[100, 105, 103, 105, 116]⟩, .int .u8 0, .int .u8 0] 168 (0, 0))) from fun b hb => ⟨by
    have : b = holdsM (.cls 1) c := by
      show b = (diB c)
      rw [Bool.eq_iff_iff]
      simp only [upB, loB, diB, Bool.or_eq_true, decide_eq_true_eq, ← hn]
      exact hb
    rw [this], (Fr.refl _ _).alloc _⟩)
  show Calls Tryz.prog 110 #[.agg #[.string ⟨#[100, 105, 103, 105, 116]⟩, .int .u8 0, .int .u8 0], .int .u8 c.toNat] w _
  simp only [← hn]
  clear hn
  go_enter Tryz.func110, Tryz.ntmps110
  go_wp2_with fail
  all_goals go_ret
  all_goals exact hfin.out _ (by simp; omega)
set_option maxRecDepth 100000 in
set_option maxHeartbeats 4000000 in
theorem holds_cls2 (w : World) (c : UInt8) : Calls Tryz.prog 110 #[memV (.cls 2), .int .u8 c.toNat] w (BPost w (holdsM (.cls 2) c)) := by
  obtain ⟨n, hn⟩ : ∃ n : Nat, n = c.toNat := ⟨_, rfl⟩
  have hfin := hide (show ∀ b : Bool, (b = true ↔ ((65 ≤ n ∧ n ≤ 90) ∨ (97 ≤ n ∧ n ≤ 122)) ∨ (48 ≤ n ∧ n ≤ 57)) → BPost w (holdsM (.cls 2) c) (.returned (.bool b)) (w.alloc (.cells #[.string ⟨#[97, 108, 110, 117, 109]⟩, .int .u8 0, .int .u8 0] 168 (0, 0))) from fun b hb => ⟨by
    have : b = holdsM (.cls 2) c := by
      show b = (upB c || loB c || diB c)
      rw [Bool.eq_iff_iff]
      simp only [upB, loB, diB, Bool.or_eq_true, decide_eq_true_eq, ← hn]
      exact hb
    rw [this], (Fr.refl _ _).alloc _⟩)
  show Calls Tryz.prog 110 #[.agg #[.string ⟨#[97, 108, 110, 117, 109]⟩, .int .u8 0, .int .u8 0], .int .u8 c.toNat] w _
  simp only [← hn]
  clear hn
  go_enter Tryz.func110, Tryz.ntmps110
  go_wp2_with fail
  all_goals go_ret
  all_goals exact hfin.out _ (by simp; omega)
set_option maxRecDepth 100000 in
set_option maxHeartbeats 4000000 in
theorem holds_cls3 (w : World) (c : UInt8) : Calls Tryz.prog 110 #[memV (.cls 3), .int .u8 c.toNat] w (BPost w (holdsM (.cls 3) c)) := by
  obtain ⟨n, hn⟩ : ∃ n : Nat, n = c.toNat := ⟨_, rfl⟩
  have hfin := hide (show ∀ b : Bool, (b = true ↔ 65 ≤ n ∧ n ≤ 90) → BPost w (holdsM (.cls 3) c) (.returned (.bool b)) (w.alloc (.cells #[.string ⟨#[117, 112, 112, 101, 114]⟩, .int .u8 0, .int .u8 0] 168 (0, 0))) from fun b hb => ⟨by
    have : b = holdsM (.cls 3) c := by
      show b = (upB c)
      rw [Bool.eq_iff_iff]
      simp only [upB, loB, diB, Bool.or_eq_true, decide_eq_true_eq, ← hn]
      exact hb
    rw [this], (Fr.refl _ _).alloc _⟩)
  show Calls Tryz.prog 110 #[.agg #[.string ⟨#[117, 112, 112, 101, 114]⟩, .int .u8 0, .int .u8 0], .int .u8 c.toNat] w _
  simp only [← hn]
  clear hn
  go_enter Tryz.func110, Tryz.ntmps110
  go_wp2_with fail
  all_goals go_ret
  all_goals exact hfin.out _ (by simp; omega)
set_option maxRecDepth 100000 in
set_option maxHeartbeats 4000000 in
theorem holds_cls4 (w : World) (c : UInt8) : Calls Tryz.prog 110 #[memV (.cls 4), .int .u8 c.toNat] w (BPost w (holdsM (.cls 4) c)) := by
  obtain ⟨n, hn⟩ : ∃ n : Nat, n = c.toNat := ⟨_, rfl⟩
  have hfin := hide (show ∀ b : Bool, (b = true ↔ 97 ≤ n ∧ n ≤ 122) → BPost w (holdsM (.cls 4) c) (.returned (.bool b)) (w.alloc (.cells #[.string ⟨#[108, 111, 119, 101, 114]⟩, .int .u8 0, .int .u8 0] 168 (0, 0))) from fun b hb => ⟨by
    have : b = holdsM (.cls 4) c := by
      show b = (loB c)
      rw [Bool.eq_iff_iff]
      simp only [upB, loB, diB, Bool.or_eq_true, decide_eq_true_eq, ← hn]
      exact hb
    rw [this], (Fr.refl _ _).alloc _⟩)
  show Calls Tryz.prog 110 #[.agg #[.string ⟨#[108, 111, 119, 101, 114]⟩, .int .u8 0, .int .u8 0], .int .u8 c.toNat] w _
  simp only [← hn]
  clear hn
  go_enter Tryz.func110, Tryz.ntmps110
  go_wp2_with fail
  all_goals go_ret
  all_goals exact hfin.out _ (by simp; omega)
set_option maxRecDepth 100000 in
set_option maxHeartbeats 4000000 in
theorem holds_cls5 (w : World) (k : Nat) (c : UInt8) : Calls Tryz.prog 110 #[memV (.cls (k + 5)), .int .u8 c.toNat] w (BPost w (holdsM (.cls (k + 5)) c)) := by
  obtain ⟨n, hn⟩ : ∃ n : Nat, n = c.toNat := ⟨_, rfl⟩
  have hfin := hide (show ∀ b : Bool, (b = true ↔ n = 32 ∨ (9 ≤ n ∧ n ≤ 13)) → BPost w (holdsM (.cls (k + 5)) c) (.returned (.bool b)) (w.alloc (.cells #[.string ⟨#[115, 112, 97, 99, 101]⟩, .int .u8 0, .int .u8 0] 168 (0, 0))) from fun b hb => ⟨by
    have : b = holdsM (.cls (k + 5)) c := by
      show b = (decide (c.toNat = 32) || decide (9 ≤ c.toNat ∧ c.toNat ≤ 13))
      rw [Bool.eq_iff_iff]
      simp only [upB, loB, diB, Bool.or_eq_true, decide_eq_true_eq, ← hn]
      exact hb
    rw [this], (Fr.refl _ _).alloc _⟩)
  show Calls Tryz.prog 110 #[.agg #[.string ⟨#[115, 112, 97, 99, 101]⟩, .int .u8 0, .int .u8 0], .int .u8 c.toNat] w _
  simp only [← hn]
  clear hn
  go_enter Tryz.func110, Tryz.ntmps110
  go_wp2_with fail
  all_goals go_ret
  all_goals exact hfin.out _ (by simp; omega)
theorem holds_any (w : World) (m : Mem) (c : UInt8) : Calls Tryz.prog 110 #[memV m, .int .u8 c.toNat] w (BPost w (holdsM m c)) :=
  match m with
  | .rng a z => holds_rng w a z c
  | .cls 0 => holds_cls0 w c
  | .cls 1 => holds_cls1 w c
  | .cls 2 => holds_cls2 w c
  | .cls 3 => holds_cls3 w c
  | .cls 4 => holds_cls4 w c
  | .cls (k + 5) => holds_cls5 w k c
end Go.Proofs.YtlhmmiolnbgloaaGreatDoor

/- A range over a function, by an invariant over ghost states: the caller and the iterator share a relation on steps. Conditions: the premises. -/
namespace Go.Proofs.YtlhmmiolnbgloaaGreatDoor
open Go.RowKit

abbrev FW : Fence := Fence.wide

/-- What a round's body must come to. -/
def rfPost {σ : Type} (D : Nat) (I : σ → World → Prop) (Ix : Code → World → Prop) (s' : σ) (W : World) : Exit → Act → World → Prop
  | .normal, _, W' => (W'.heap[D]? = W.heap[D]? ∧ W'.heap[D + 1]? = W.heap[D + 1]?) ∧ I s' W'
  | .ret, _, W' => (W'.heap[D]? = W.heap[D]? ∧ W'.heap[D + 1]? = W.heap[D + 1]?) ∧ Ix .ret W'
  | .exit id, _, W' => (W'.heap[D]? = W.heap[D]? ∧ W'.heap[D + 1]? = W.heap[D + 1]?) ∧ Ix (.exit id) W'
  | .goto t, _, W' => (W'.heap[D]? = W.heap[D]? ∧ W'.heap[D + 1]? = W.heap[D + 1]?) ∧ Ix (.goto t) W'
  | .panic _, _, _ => False
  | .outgrown, _, _ => False

theorem fr_putObj {S : Nat → Prop} {W : World} {r : Nat} (o : Obj) (hS : S r) : Fr S W (W.putObj r o) :=
  ⟨rfl, rfl, rfl, by simp, fun k _ hk => World.putObj_heap_other (fun e => hk (e ▸ hS))⟩

theorem rf_law {P : Program} {α σ : Type} {n : Nat} {g : Operand} {ps : Array Tmp} {assign body : Code} {Q : Exit → Act → World → Prop} {a : Act} {w : World}
    (gf : Nat) (lb : Array Value) (hg : a.eval g = .func (.func gf) #[] lb) (eg : ∀ args w, (callFunc gf args).run P w = .ok (.enter gf args) w)
    (encs : α → Array Value) (hps : ∀ x, (encs x).size = ps.size)
    (Step : σ → α → σ → World → Prop) (Fin : σ → Prop) (s0 : σ) (I : σ → World → Prop) (Ix : Code → World → Prop)
    (hI : ∀ s W W', I s W → Fr (fun k => k = w.heap.size ∨ k = w.heap.size + 1) W W' → I s W')
    (hIx : ∀ c W W', Ix c W → Fr (fun k => k = w.heap.size ∨ k = w.heap.size + 1) W W' → Ix c W')
    (hStep : ∀ s x s' W W', Step s x s' W → I s W → Fr (fun k => k = w.heap.size ∨ k = w.heap.size + 1) W W' → Step s x s' W')
    (h0 : I s0 w)
    (hiter : ∀ (l : Nat) (J : σ → World → Prop) (Jx : World → Prop) (W : World), (∀ s W, J s W → I s W) →
      (∀ s W W', J s W → Fr (fun _ => False) W W' → J s W') → (∀ W W', Jx W → Fr (fun _ => False) W W' → Jx W') →
      (∀ s x s' W, Step s x s' W → J s W → YieldAt FW (n - 1 - 1) P l (encs x) W fun e W' => (e = .returned (.bool true) ∧ J s' W') ∨ (e = .returned (.bool false) ∧ Jx W')) →
      J s0 W → CallsIn FW (n - 1) P gf (#[.func (.yield l) #[] #[]] ++ lb) W fun e W' => (∃ v, e = .returned v) ∧ ((∃ s, Fin s ∧ J s W') ∨ Jx W'))
    (a₁ : α → Act)
    (hassign : ∀ (l : Nat) (x : α) (W : World) (K : Act → World → Prop), K (a₁ x) W →
      assign.wpIn (FW.inRound l) (n - 1 - 1) P (Exit.then K (fun _ _ _ => False)) { tmps := (ps.zip (encs x)).foldl (fun t (p, v) => t.setIfInBounds p v) a.tmps, defers := [] } W)
    (hbody : ∀ (l : Nat) (s : σ) (x : α) (s' : σ) (W : World), Step s x s' W → I s W → w.heap.size + 2 ≤ W.heap.size → body.wpIn (FW.inRound l) (n - 1 - 1) P (rfPost w.heap.size I Ix s' W) (a₁ x) W)
    (hdone : ∀ (s : σ) (W : World), Fin s → I s W → W.heap[w.heap.size]? = some (.deferred (some [])) → Q .normal { a with defers := { target := .collected w.heap.size, args := #[] } :: a.defers } W)
    (hstop : ∀ (c : Code) (W : World), Ix c W → W.heap[w.heap.size]? = some (.deferred (some [])) → c.wpIn FW n P Q { a with defers := { target := .collected w.heap.size, args := #[] } :: a.defers } W) :
    (Code.rangeFunc g ps assign body).wpIn FW n P Q a w := by
  refine wpIn_rangeFunc fun fn hfn => ?_
  obtain ⟨rec, hrec⟩ : ∃ rec : LoopState → Option Code → Loop, rec = fun st pd => { state := st, pending := pd, fn := fn, tmps := a.tmps, params := ps, assign := assign, body := body, defers := w.heap.size } := ⟨_, rfl⟩
  obtain ⟨W1, hW1⟩ : ∃ W1, W1 = (w.alloc (.deferred (some []))).alloc (.loop (rec .ready none)) := ⟨_, rfl⟩
  have hf1 : Fr (fun _ => False) w W1 := by rw [hW1]; exact ((Fr.refl _ _).alloc _).alloc _
  have hL1 : W1.heap[w.heap.size + 1]? = some (.loop (rec .ready none)) := by rw [hW1]; exact blk_new' _ _ _ (by simp)
  have hK1 : W1.heap[w.heap.size]? = some (.deferred (some [])) := by rw [hW1]; exact blk_alloc (blk_new _ _) _
  have hI1 : I s0 W1 := hI _ _ _ h0 (hf1.mono fun _ _ h => h.elim)
  have hR : ∀ {A B : World}, Fr (fun _ => False) A B → Fr (fun k => k = w.heap.size ∨ k = w.heap.size + 1) A B := fun h => h.mono fun _ _ h => h.elim
  have hput : ∀ (A : World) (o : Obj), Fr (fun k => k = w.heap.size ∨ k = w.heap.size + 1) A (A.putObj (w.heap.size + 1) o) := fun A o => fr_putObj o (.inr rfl)
  refine ⟨w.heap.size + 1, [{ target := .collected w.heap.size, args := #[] }], W1, { target := .fn (.func gf) lb, args := #[.func (.yield (w.heap.size + 1)) #[] #[]] }, W1, gf,
    #[.func (.yield (w.heap.size + 1)) #[] #[]] ++ lb, W1, ?_, ?_, ?_, ?_, fun h => (by cases h), ?_⟩
  · rw [hW1, hrec]; exact run_enterLoop_outer _ _ _ _ _
  · simp only [resolve, hg]
    simp [go_sem]
  · intro f' hf'; trivial
  · simp [invoke, go_sem, eg]
  · refine (hiter (w.heap.size + 1)
      (fun s W => I s W ∧ W.heap[w.heap.size + 1]? = some (.loop (rec .ready none)) ∧ W.heap[w.heap.size]? = some (.deferred (some [])))
      (fun W => ∃ c, Ix c W ∧ W.heap[w.heap.size + 1]? = some (.loop (rec .done (some c))) ∧ W.heap[w.heap.size]? = some (.deferred (some [])))
      W1 (fun _ _ h => h.1)
      (fun s A B hs hg' => ⟨hI s A B hs.1 (hR hg'), hg'.get hs.2.1 (fun h => h), hg'.get hs.2.2 (fun h => h)⟩)
      (fun A B hs hg' => by
        obtain ⟨c, hc, hl, hk⟩ := hs
        exact ⟨c, hIx c A B hc (hR hg'), hg'.get hl (fun h => h), hg'.get hk (fun h => h)⟩)
      ?_ ⟨hI1, hL1, hK1⟩).mono ?_
    · rintro s x s' W hst ⟨hi, hl, hk⟩
      have hlt : w.heap.size + 1 < W.heap.size := blk_lt hl
      have hy := run_yield (P := P) (args := encs x) hl (by rw [hrec]; exact hps x)
      rw [hrec] at hy
      refine ⟨fn, _, assign, body, hy, roundIn_of_wpIn hfn (hassign _ x W _ ⟨_, run_beginRound hl (by rw [hrec]), ?_⟩)⟩
      have hl2 : (W.putObj (w.heap.size + 1) (.loop { rec .ready none with state := .busy })).heap[w.heap.size + 1]? = some (.loop { rec .ready none with state := .busy }) := World.putObj_heap_same hlt
      have hk2 : (W.putObj (w.heap.size + 1) (.loop { rec .ready none with state := .busy })).heap[w.heap.size]? = some (.deferred (some [])) := (World.putObj_heap_other (by omega)).trans hk
      refine wpIn_mono (hbody _ s x s' _ (hStep _ _ _ _ _ hst hi (hput _ _)) (hI _ _ _ hi (hput _ _)) (by simp; omega)) ?_
      have fin : ∀ (jump : Option Code) (W3 : World), (W3.heap[w.heap.size]? = (W.putObj (w.heap.size + 1) (.loop { rec .ready none with state := .busy })).heap[w.heap.size]? ∧ W3.heap[w.heap.size + 1]? = (W.putObj (w.heap.size + 1) (.loop { rec .ready none with state := .busy })).heap[w.heap.size + 1]?) →
          (Instr.endRound (w.heap.size + 1) jump).run P W3 = .ok (.bool jump.isNone) (W3.putObj (w.heap.size + 1) (.loop (rec (if jump.isNone then .ready else .done) jump))) ∧
          (W3.putObj (w.heap.size + 1) (.loop (rec (if jump.isNone then .ready else .done) jump))).heap[w.heap.size + 1]? = some (.loop (rec (if jump.isNone then .ready else .done) jump)) ∧
          (W3.putObj (w.heap.size + 1) (.loop (rec (if jump.isNone then .ready else .done) jump))).heap[w.heap.size]? = some (.deferred (some [])) := fun jump W3 hk3 => by
        have hl3 : W3.heap[w.heap.size + 1]? = some (.loop { rec .ready none with state := .busy }) := hk3.2.trans hl2
        have := run_endRound (P := P) jump hl3
        rw [hrec] at this ⊢
        exact ⟨this, World.putObj_heap_same (blk_lt hl3), (World.putObj_heap_other (by omega)).trans (hk3.1.trans hk2)⟩
      rintro e a3 W3 hp
      cases e with
      | normal =>
        obtain ⟨hk3, hi3⟩ := hp
        obtain ⟨hr, hl4, hk4⟩ := fin none W3 hk3
        exact ⟨_, _, hr, .inl ⟨rfl, hI _ _ _ hi3 (hput _ _), hl4, hk4⟩⟩
      | ret =>
        obtain ⟨hk3, hi3⟩ := hp
        obtain ⟨hr, hl4, hk4⟩ := fin (some .ret) W3 hk3
        exact ⟨_, _, hr, .inr ⟨rfl, .ret, hIx _ _ _ hi3 (hput _ _), hl4, hk4⟩⟩
      | exit id =>
        obtain ⟨hk3, hi3⟩ := hp
        obtain ⟨hr, hl4, hk4⟩ := fin (some (.exit id)) W3 hk3
        exact ⟨_, _, hr, .inr ⟨rfl, .exit id, hIx _ _ _ hi3 (hput _ _), hl4, hk4⟩⟩
      | goto t =>
        obtain ⟨hk3, hi3⟩ := hp
        obtain ⟨hr, hl4, hk4⟩ := fin (some (.goto t)) W3 hk3
        exact ⟨_, _, hr, .inr ⟨rfl, .goto t, hIx _ _ _ hi3 (hput _ _), hl4, hk4⟩⟩
      | panic chain => exact hp.elim
      | outgrown => exact hp.elim
    · rintro e W' ⟨⟨v, rfl⟩, hend⟩
      rcases hend with ⟨s, hfin, hi, hl, hk⟩ | ⟨c, hc, hl, hk⟩
      · have he := run_endLoop (P := P) hl (by rw [hrec]; simp)
        rw [show (rec .ready none).pending = none by rw [hrec]] at he
        refine ⟨none, _, he, ?_⟩
        exact hdone s _ hfin (hI _ _ _ hi (hput _ _)) ((World.putObj_heap_other (by omega)).trans hk)
      · have he := run_endLoop (P := P) hl (by rw [hrec]; simp)
        rw [show (rec .done (some c)).pending = some c by rw [hrec]] at he
        refine ⟨some c, _, he, ?_⟩
        exact hstop c _ (hIx _ _ _ hc (hput _ _)) ((World.putObj_heap_other (by omega)).trans hk)
theorem wpIn_of_wp_op {P : Program} {o : Oper} {a : Act} {w : World} {K : Act → World → Prop} {Q : Exit → Act → World → Prop} (l n : Nat) (hd : ∀ c, o.op ≠ .defer c) (h : o.wp P a w K Q) :
    o.wpIn (Fence.wide.inRound l) n P a w K Q := by
  refine ⟨fun _ _ => trivial, ?_⟩
  rw [Oper.semAt_eq _ _ _ hd]
  unfold Oper.wp at h
  generalize (execOp a.eval o).run P w = r at *
  cases r with
  | ok x w' =>
    cases x <;> simp only [Oper.upon] at h <;> simp only [Oper.uponIn] <;>
      first
        | exact h
        | exact h.elim
        | skip
    case enter f args =>
      exact ⟨fun h0 => (by cases h0), CallsIn.inRound l (callsIn_wide.2 (h.mono fun e w' he => by cases e <;> exact he))⟩
    case row row args =>
      refine ⟨fun h0 => (by cases h0), fun c cs _ => ?_⟩
      obtain ⟨v, w2, hR, hs⟩ := h c cs
      exact ⟨v, w2, hR, stepsIn_wide.2 hs⟩
  | halt x w' => cases x <;> simp only [Oper.upon] at h <;> simp only [Oper.uponIn] <;> exact h

theorem wpIn_of_wpOp {P : Program} {ops : Array Oper} {i : Nat} {a : Act} {w : World} {K : Act → World → Prop} {Q : Exit → Act → World → Prop} (l n : Nat) (hd : ∀ o ∈ ops, ∀ c, o.op ≠ .defer c) (hlo : ¬ LetsOut Q) (h : wpOp P ops Q i K a w) :
    wpOpIn (Fence.wide.inRound l) n P ops Q i K a w := by
  unfold wpOp at h
  unfold wpOpIn
  split
  · rename_i ho; simpa [ho] using h
  · rename_i o ho
    simp only [ho] at h
    split
    · rename_i hw
      rw [if_pos hw] at h
      rcases h with h | h
      · exact wpIn_of_wp_op l n (hd o (Array.mem_of_getElem? ho)) h
      · exact absurd h.2 hlo
    · rename_i hw
      rw [if_neg hw] at h
      exact ⟨fun _ _ => trivial, h⟩
theorem wpIn_of_wpAny {P : Program} {ops : Array Oper} {md : Region.Mode} {Q : Exit → Act → World → Prop} (l n : Nat) (hd : ∀ o ∈ ops, ∀ c, o.op ≠ .defer c) (hlo : ¬ LetsOut Q) :
    ∀ (f : Nat) (listed : Array Bool) (a : Act) (w : World), wpAny P md ops Q f listed a w → wpAnyIn (Fence.wide.inRound l) n P md ops Q f listed a w
  | 0, _, _, _, h => h
  | f + 1, _, _, _, h => ⟨h.1, fun i hi => wpOpIn_mono (fun a' w' h' => wpIn_of_wpAny l n hd hlo f _ a' w' h') (wpIn_of_wpOp l n hd hlo (h.2 i hi))⟩
def noDefer (ops : Array Oper) : Bool := ops.all fun o => match o.op with | .defer _ => false | _ => true
theorem noDefer_spec {ops : Array Oper} (h : noDefer ops = true) : ∀ o ∈ ops, ∀ c, o.op ≠ .defer c := by
  intro o ho c heq
  have := Array.all_eq_true_iff_forall_mem.1 h o ho
  simp [heq] at this
/-- A region that draws its order, in a round of a range over a function. -/
theorem round_any {P : Program} {id : Nat} {a : Act} {w : World} {ops : Array Oper} {Q : Exit → Act → World → Prop} {l n : Nat} (hm : P.follows .mixedOrders = true) (hd : noDefer ops = true) (hlo : ¬ LetsOut Q)
    (h : wpAny P .any ops Q ops.size (Array.replicate ops.size false) a w.drew) : (Code.region id ops true).wpIn (Fence.wide.inRound l) n P Q a w :=
  wpIn_region_any hm (wpIn_of_wpAny l n (noDefer_spec hd) hlo _ _ _ _ h)
end Go.Proofs.YtlhmmiolnbgloaaGreatDoor
