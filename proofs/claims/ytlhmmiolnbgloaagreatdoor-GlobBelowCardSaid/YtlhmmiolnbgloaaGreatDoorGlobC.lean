/- pattern.members: each member of a bracket, told to whoever asks. Conditions: the contract's own premises. -/
import Derived.Test.YtlhmmiolnbgloaaGreatDoorRangeFunc
import Derived.Test.YtlhmmiolnbgloaaGreatDoorRangeFuncB
import Derived.Test.YtlhmmiolnbgloaaGreatDoorRangeFuncC
import Derived.Deep.CutBlock
import Derived.Deep.DeepCutAuto
import Derived.Shelf.Abstract
import Derived.OwnWalkIn
import Derived.TacticsInMore
import Derived.LoopNIn
import Derived.LoopIn
namespace Go.Proofs.YtlhmmiolnbgloaaGreatDoor
open Go.RowKit Go.Shelf

attribute [local go_sem] Oper.semAt_some

/-- What is left of a slice behind its first elements. -/
def Sub (pv rv : Value) (k : Nat) : Prop := ∃ a n c a' c', pv = .slice a n c ∧ rv = .slice a' (n - k) c' ∧ k ≤ n ∧ n - k ≤ c' ∧ c' ≤ 9223372036854775807 ∧ (k = n ∨ ∃ g o, a = some ⟨g, o, none⟩ ∧ a' = some ⟨g, o + k * 2, none⟩)
theorem Sub.refl {w : World} {T : Nat → Prop} {pv : Value} {p : List Ch} (h : ChV w T pv p) : Sub pv pv 0 := by
  obtain ⟨a, c, rfl, h2, h3, h4⟩ := h
  refine ⟨a, _, c, a, c, rfl, rfl, Nat.zero_le _, h2, h3, ?_⟩
  rcases h4 with rfl | ⟨g, o, rfl, _⟩
  · exact .inl rfl
  · exact .inr ⟨g, o, rfl, rfl⟩
theorem Sub.ch {w : World} {T : Nat → Prop} {pv rv : Value} {p : List Ch} {k : Nat} (h : ChV w T pv p) (hs : Sub pv rv k) : ChV w T rv (p.drop k) := by
  obtain ⟨a, n, c, a', c', rfl, rfl, h1, h2, h3, h4⟩ := hs
  obtain ⟨rfl, g1, g2, g3⟩ := h.at
  refine ⟨a', c', by rw [List.length_drop], by rw [List.length_drop]; exact h2, h3, ?_⟩
  rcases h4 with rfl | ⟨g, o, rfl, rfl⟩
  · exact .inl (List.drop_length)
  · rcases g3 with rfl | ⟨g', o', e1, g4, g5, g6⟩
    · exact .inl (by simp)
    · cases e1
      refine .inr ⟨g, o + k * 2, rfl, g4, g5, fun j hj => ?_⟩
      have hj' : k + j < p.length := by rw [List.length_drop] at hj; omega
      have h9 := g6 (k + j) hj'
      rw [List.getElem_drop, show o + k * 2 + j * 2 = o + (k + j) * 2 by omega]
      exact h9
theorem Sub.le {pv rv : Value} {k : Nat} {w : World} {T : Nat → Prop} {p : List Ch} (h : ChV w T pv p) (hs : Sub pv rv k) : k ≤ p.length := by
  obtain ⟨a, n, c, a', c', rfl, rfl, h1, _⟩ := hs
  obtain ⟨rfl, _⟩ := h.at
  exact h1
theorem Sub.cut {pv : Value} {a' : Option Addr} {m c' k : Nat} (hs : Sub pv (.slice a' m c') k) {j : Nat} (hj : j ≤ m) : Sub pv (.slice (if c' = j then a' else a'.map (·.add (j * 2))) (m - j) (c' - j)) (k + j) := by
  obtain ⟨a, n, c, a2, c2, rfl, e, h1, h2, h3, h4⟩ := hs
  cases e
  refine ⟨a, n, c, _, _, rfl, by rw [Nat.sub_sub], by omega, by omega, by omega, ?_⟩
  by_cases e : k + j = n
  · exact .inl e
  · right
    rcases h4 with h4 | ⟨g, o, rfl, rfl⟩
    · omega
    · refine ⟨g, o, rfl, ?_⟩
      have e3 : ¬ c' = j := by omega
      rw [if_neg e3]
      show some (Addr.add ⟨g, o + k * 2, none⟩ (j * 2)) = _
      rw [Addr.add_lit, show o + k * 2 + j * 2 = o + (k + j) * 2 by omega]
/-- The first of a row. -/
theorem ChV.head {w : World} {T : Nat → Prop} {a : Option Addr} {n c : Nat} {x : Ch} {r : List Ch} (h : ChV w T (.slice a n c) (x :: r)) : ∃ g o, a = some ⟨g, o, none⟩ ∧ g < w.heap.size ∧ w.cell? ⟨g, o, none⟩ = some (.int .u8 x.b.toNat) ∧ w.cell? ⟨g, o + 1, none⟩ = some (.bool x.q) := by
  obtain ⟨_, _, _, h4⟩ := h.at
  rcases h4 with h4 | ⟨g, o, h5, h6, h7, h8⟩
  · cases h4
  · have := h8 0 (by simp)
    simp only [Nat.zero_mul, Nat.add_zero, List.getElem_cons_zero] at this
    exact ⟨g, o, h5, h7, this.1, this.2⟩
theorem ChV.tl {w : World} {T : Nat → Prop} {g o n c : Nat} {x : Ch} {r : List Ch} (h : ChV w T (.slice (some ⟨g, o, none⟩) n c) (x :: r)) (hr : r ≠ []) : ChV w T (.slice (some ⟨g, o + 2, none⟩) r.length (c - 1)) r := by
  obtain ⟨h1, h2, h3, h4⟩ := h.at
  rw [List.length_cons] at h1
  rcases h4 with h4 | ⟨g', o', e, h6, h7, h8⟩
  · cases h4
  · cases e
    refine ⟨_, _, rfl, by omega, by omega, .inr ⟨g, o + 2, rfl, h6, h7, fun j hj => ?_⟩⟩
    have h9 := h8 (j + 1) (by simpa using hj)
    rw [List.getElem_cons_succ, show o + (j + 1) * 2 = o + 2 + j * 2 by omega] at h9
    exact h9
theorem starts_one (x : Ch) (r : List Ch) (b : UInt8) : startsL (x :: r) [b] = decide (x = un b) := by
  unfold startsL
  simp
def sliceLen : Value → Nat
  | .slice _ n _ => n
  | _ => 0
/-- The name of a class. -/
def clsS : Option (Nat × Nat) → ByteArray
  | none => ⟨#[]⟩
  | some (k, _) => ⟨(names6.getD k []).toArray⟩
def clsJ (rest : List Ch) (j : Nat) : Option (Nat × Nat) := (List.range j).foldl (fun acc k => if startsL rest ([91, 58] ++ names6.getD k [] ++ [58, 93]) = true then some (k, (names6.getD k []).length + 4) else acc) none
theorem clsJ_all (rest : List Ch) : classOf rest = clsJ rest 6 := rfl
theorem clsJ_succ (rest : List Ch) (j : Nat) : clsJ rest (j + 1) = if startsL rest ([91, 58] ++ names6.getD j [] ++ [58, 93]) = true then some (j, (names6.getD j []).length + 4) else clsJ rest j := by
  unfold clsJ
  rw [List.range_succ, List.foldl_append]
  rfl
theorem clsJ_spec (rest : List Ch) : ∀ j, j ≤ 6 → ∀ k n, clsJ rest j = some (k, n) → k < 6 ∧ n = (names6.getD k []).length + 4 ∧ n ≤ rest.length
  | 0, _, k, n, h => by cases h
  | j + 1, hj, k, n, h => by
    rw [clsJ_succ] at h
    split at h
    · rename_i hs
      cases h
      refine ⟨by omega, rfl, ?_⟩
      unfold startsL at hs
      rw [decide_eq_true_eq] at hs
      have := congrArg List.length hs
      simp only [List.length_take, List.length_map, List.length_append, List.length_cons, List.length_nil] at this
      omega
    · exact clsJ_spec rest j (by omega) k n h
/-- A class's name. -/
def nmS (j : Nat) : ByteArray := ⟨(names6.getD j []).toArray⟩
theorem nmS_size {j : Nat} (hj : j < 6) : (nmS j).size ≤ 5 := by
  unfold nmS
  rw [names6_val]
  match j, hj with
  | 0, _ => decide
  | 1, _ => decide
  | 2, _ => decide
  | 3, _ => decide
  | 4, _ => decide
  | 5, _ => decide
theorem nmS_ne {j : Nat} (hj : j < 6) : (nmS j).toList.isEmpty = false := by
  refine ba_nonempty ?_
  unfold nmS
  rw [names6_val]
  match j, hj with
  | 0, _ => simp
  | 1, _ => simp
  | 2, _ => simp
  | 3, _ => simp
  | 4, _ => simp
  | 5, _ => simp
theorem memV_cls {j : Nat} (hj : j < 6) : memV (.cls j) = .agg #[.string (nmS j), .int .u8 0, .int .u8 0] := by
  unfold nmS
  rw [names6_val]
  match j, hj with
  | 0, _ => rfl
  | 1, _ => rfl
  | 2, _ => rfl
  | 3, _ => rfl
  | 4, _ => rfl
  | 5, _ => rfl
/-- Behind the switch: the next member, and how many elements it takes. -/
def SwRel (mb : Nat) (w7 : World) (x : Ch) (r : List Ch) (s6 : Value) (wx : World) : Prop :=
  ∃ m nn, memAt x r = (m, nn) ∧ s6 = .int .i64 (nn : Nat) ∧ 1 ≤ nn ∧ nn ≤ (x :: r).length ∧ ∃ a b c, memV m = .agg #[.string a, .int .u8 b, .int .u8 c] ∧ wx.heap[mb]? = some (.cells #[.string a, .int .u8 b, .int .u8 c] 168 (0, 0)) ∧ Fr (fun k => k = mb) w7 wx
theorem cat6 (j : Nat) : (⟨#[91, 58]⟩ ++ nmS j ++ ⟨#[58, 93]⟩ : ByteArray).data.toList = [91, 58] ++ names6.getD j [] ++ [58, 93] := by
  rw [ba_append, ba_append]
  rfl
theorem cell6 {w : World} {nb : Nat} {t : TypeId} {f : Nat × Nat} (h : w.heap[nb]? = some (.cells #[.string ⟨#[97, 108, 112, 104, 97]⟩, .string ⟨#[100, 105, 103, 105, 116]⟩, .string ⟨#[97, 108, 110, 117, 109]⟩, .string ⟨#[117, 112, 112, 101, 114]⟩, .string ⟨#[108, 111, 119, 101, 114]⟩, .string ⟨#[115, 112, 97, 99, 101]⟩] t f)) {j : Nat} (hj : j < 6) : w.cell? ⟨nb, j, none⟩ = some (.string (nmS j)) := by
  rw [blk_cell h]
  unfold nmS
  rw [names6_val]
  match j, hj with
  | 0, _ => rfl
  | 1, _ => rfl
  | 2, _ => rfl
  | 3, _ => rfl
  | 4, _ => rfl
  | 5, _ => rfl
theorem clsS_succ (q : List Ch) (j : Nat) : clsS (clsJ q (j + 1)) = if startsL q ([91, 58] ++ names6.getD j [] ++ [58, 93]) = true then nmS j else clsS (clsJ q j) := by
  rw [clsJ_succ]
  split <;> rfl
def CRel (w6 : World) (q : List Ch) (gk : Nat) (i cv : Value) (wr : World) : Prop := ∃ j, gk + j = 6 ∧ i = .int .i64 j ∧ cv = .string (clsS (clsJ q j)) ∧ Fr (fun _ => False) w6 wr
theorem mem_cons {f : Nat} {first : Bool} {x : Ch} {r : List Ch} {m : Mem} {nn : Nat} (h : first = true ∨ x ≠ un clB) (hm : memAt x r = (m, nn)) : membersL (f + 1) first (x :: r) = (m, (x :: r).drop nn) :: membersL f false ((x :: r).drop nn) := by
  rw [membersL, if_pos h, hm]
def menc (x : Mem × Value) : Array Value := #[memV x.1, x.2]
def MStep (pv : Value) (p : List Ch) (s : Nat) (x : Mem × Value) (s' : Nat) : Prop := ∃ h : s < (membersL p.length true p).length, x.1 = (membersL p.length true p)[s].1 ∧ Sub pv x.2 (p.length - (membersL p.length true p)[s].2.length) ∧ s' = s + 1
def MRel (pv : Value) (p : List Ch) (J : Nat → (Nat → Prop) → World → Prop) (gk : Nat) (f rv : Value) (wr : World) : Prop :=
  ∃ (fb : Bool) (k s fuel : Nat) (A : Nat → Prop), f = .bool fb ∧ s ≤ (membersL p.length true p).length ∧ Sub pv rv k ∧ gk + k = p.length ∧ p.length - k ≤ fuel ∧ (membersL p.length true p).drop s = membersL fuel fb (p.drop k) ∧ J s A wr
set_option maxRecDepth 100000 in
set_option maxHeartbeats 16000000 in
theorem members1_iter (n : Nat) (bx : Nat) (T : Nat → Prop) (pv : Value) (p : List Ch) (l : Nat) (J : Nat → (Nat → Prop) → World → Prop) (W : World)
    (hJI : ∀ s A W, J s A W → ChV W T pv p ∧ W.cell? ⟨bx, 0, none⟩ = some pv) (hJf : ∀ s (A : Nat → Prop) W W', J s A W → Fr (fun k => ¬ A k) W W' → J s A W') (hJA : ∀ s A W, J s A W → ∀ k, A k → k < W.heap.size)
    (hY : ∀ s A x s' W, MStep pv p s x s' → J s A W → YieldAt FW (n - 1) Tryz.prog l (menc x) W fun e W' => Fr A W W' ∧ e = .returned (.bool true) ∧ J s' (fun k => A k ∨ (W.heap.size ≤ k ∧ k < W'.heap.size)) W')
    (A0 : Nat → Prop) (h0 : J 0 A0 W) :
    Calls Tryz.prog 115 #[.func (.yield l) #[] #[], .pointer (some ⟨bx, 0, none⟩)] W fun e W' => (∃ v, e = .returned v) ∧ ∃ A, J (membersL p.length true p).length A W' := by
  obtain ⟨hc0, hb0⟩ := hJI _ _ _ h0
  have H0 := hide (show MRel pv p J p.length (.bool true) pv W from ⟨true, 0, 0, p.length, A0, rfl, Nat.zero_le _, Sub.refl hc0, rfl, by omega, rfl, h0⟩)
  clear h0 hc0
  go_enter Tryz.func115, Tryz.ntmps115
  go_wp2_with fail
  clear hb0
  go_loopg [3, 4] p.length (fun gk f rv wr => MRel pv p J gk f rv wr)
  case atStart => exact H0.out
  case round =>
    clear H0
    obtain ⟨fb, k, s, fuel, A, rfl, hsl, hsub, hk, hfu, hL, hJ⟩ := hrel
    obtain ⟨hc, -⟩ := hJI _ _ _ hJ
    have hcr := hsub.ch hc
    have hql : (p.drop k).length = p.length - k := List.length_drop
    have hqd : ∀ j, (p.drop k).drop j = p.drop (k + j) := fun j => List.drop_drop
    generalize p.drop k = q at *
    have Hql := hide hql
    clear hql
    obtain ⟨ra, rc, rfl⟩ := hcr.form
    obtain ⟨-, hrc, hrc2, -⟩ := hcr.at
    have HJ := hide hJ
    have Hsub := hide hsub
    have HL := hide hL
    have Hcr := hide hcr
    have Hqd := hide hqd
    clear hJ hsub hL hcr hc hqd
    cases q with
    | nil =>
      have hfin := hide (show ∃ A, J (membersL p.length true p).length A wr from ⟨A, by
        have h1 := HL.out
        have h2 : membersL fuel fb [] = [] := by cases fuel <;> rfl
        rw [h2, List.drop_eq_nil_iff] at h1
        have h3 : s = (membersL p.length true p).length := by omega
        rw [← h3]
        exact HJ.out⟩)
      clear HJ Hsub HL Hcr Hqd
      go_wp2_with fail
      go_end0
      exact ⟨⟨_, rfl⟩, hfin.out⟩
    | cons x r =>
      have hlen : (x :: r).length = r.length + 1 := rfl
      cases fb with
      | true =>
        have hfc : Fr (fun _ => False) wr wr := Fr.refl _ _
        have hx : true = true ∨ x ≠ un clB := .inl rfl
        have Hfc := hide hfc
        have Hx := hide hx
        clear hfc hx
        go_upto_region 4 with (fail)
        have hcr := Hcr.out.still Hfc.out
        obtain ⟨g, o, rfl, hg, c0, c1⟩ := hcr.head
        clear hcr
        refine region_calls (fun w' => w'.cell? ⟨g, o, none⟩ = some (.int .u8 x.b.toNat)) [0, 1, 2, 3, 4, 5, 6, 7, 8] [9] 10 (by kernel_rfl) (by kernel_rfl) (fun _ _ d _ _ h => by cases d <;> exact h) c0 ?_
        simp only [List.map_cons, List.map_nil, List.getD_cons_zero, List.getD_cons_succ, List.drop_succ_cons, List.drop_zero]
        go_big_quiet_step (fail)
        refine wpQuiet_val (.pointer (some ⟨g, o, none⟩)) rfl (fun w' hS => by (go_simp)) ?_
        simp only [Act.put, List.setIfInBounds_toArray, List.set_cons_succ, List.set_cons_zero]
        refine wpQuiet_val (.pointer (some ⟨g, o, none⟩)) rfl (fun w' hS => by (go_simp)) ?_
        simp only [Act.put, List.setIfInBounds_toArray, List.set_cons_succ, List.set_cons_zero]
        refine wpQuiet_val (.int .u8 x.b.toNat) rfl (fun w' hS => by (go_simp)) ?_
        simp only [Act.put, List.setIfInBounds_toArray, List.set_cons_succ, List.set_cons_zero]
        go_big_quiet_step (fail)
        refine wpQuiet_val (.pointer (some ⟨g, o, none⟩)) rfl (fun w' hS => by (go_simp)) ?_
        simp only [Act.put, List.setIfInBounds_toArray, List.set_cons_succ, List.set_cons_zero]
        refine wpQuiet_val (.pointer (some ⟨g, o, none⟩)) rfl (fun w' hS => by (go_simp)) ?_
        simp only [Act.put, List.setIfInBounds_toArray, List.set_cons_succ, List.set_cons_zero]
        refine wpQuiet_val (.int .u8 x.b.toNat) rfl (fun w' hS => by (go_simp)) ?_
        simp only [Act.put, List.setIfInBounds_toArray, List.set_cons_succ, List.set_cons_zero]
        refine wpQuiet_val (.agg #[.string ⟨#[]⟩, .int .u8 x.b.toNat, .int .u8 x.b.toNat]) rfl (fun w' hS => by (go_simp)) ?_
        simp only [Act.put, List.setIfInBounds_toArray, List.set_cons_succ, List.set_cons_zero]
        refine wpQuiet_nil ?_
        refine chainS_step rfl (fun K hK => ?_)
        go_wp2_with fail
        refine hK _ _ ?hS9 ?_
        case hS9 => exact (World.cell?_of_block (a := ⟨g, o, none⟩) (Below.heap_alloc _ _ g hg)).trans c0
        clear hK K
        refine chainS_nil ?_
        go_upto_region 5 with (fail)
        obtain ⟨w5, hw5⟩ : ∃ w5, w5 = (wr.alloc (.cells #[.string ⟨#[]⟩, .int .u8 x.b.toNat, .int .u8 x.b.toNat] 168 (0, 0))).drew := ⟨_, rfl⟩
        obtain ⟨mb, hmb⟩ : ∃ mb, mb = wr.heap.size := ⟨_, rfl⟩
        have hb5 : w5.heap[mb]? = some (.cells #[.string ⟨#[]⟩, .int .u8 x.b.toNat, .int .u8 x.b.toNat] 168 (0, 0)) := by rw [hw5, hmb]; exact blk_drew (blk_new _ _)
        have hf5 : Fr (fun _ => False) wr w5 := by rw [hw5]; exact ((Fr.refl _ _).alloc _).drew
        rw [← hw5, ← hmb]
        have Hmb := hide hmb
        have Hf5 := hide hf5
        clear hw5 hmb hf5 c0 c1
        go_upto_region 7 with (fail)
        obtain ⟨w6, hw6⟩ : ∃ w6, w6 = w5.alloc (.cells #[.string ⟨#[97, 108, 112, 104, 97]⟩, .string ⟨#[100, 105, 103, 105, 116]⟩, .string ⟨#[97, 108, 110, 117, 109]⟩, .string ⟨#[117, 112, 112, 101, 114]⟩, .string ⟨#[108, 111, 119, 101, 114]⟩, .string ⟨#[115, 112, 97, 99, 101]⟩] 9 (0, 0)) := ⟨_, rfl⟩
        obtain ⟨nb, hnb⟩ : ∃ nb, nb = w5.heap.size := ⟨_, rfl⟩
        have hb6 : w6.heap[nb]? = some (.cells #[.string ⟨#[97, 108, 112, 104, 97]⟩, .string ⟨#[100, 105, 103, 105, 116]⟩, .string ⟨#[97, 108, 110, 117, 109]⟩, .string ⟨#[117, 112, 112, 101, 114]⟩, .string ⟨#[108, 111, 119, 101, 114]⟩, .string ⟨#[115, 112, 97, 99, 101]⟩] 9 (0, 0)) := by rw [hw6, hnb]; exact blk_new _ _
        have hf6 : Fr (fun _ => False) w5 w6 := by rw [hw6]; exact (Fr.refl _ _).alloc _
        have hcr6 := ((Hcr.out.still Hfc.out).still Hf5.out).still hf6
        have hmb6 := hf6.get hb5 (fun e => e)
        rw [← hw6, ← hnb]
        have Hf6 := hide hf6
        have Hcr6 := hide hcr6
        have Hb6 := hide hb6
        have Hmb6 := hide hmb6
        clear hw6 hnb hf6 hcr6 hb6 hb5 hmb6
        obtain ⟨gk0, hgk0⟩ : ∃ q, q = gk := ⟨_, rfl⟩
        subst hgk0
        obtain ⟨wr0, hwr0⟩ : ∃ q, q = wr := ⟨_, rfl⟩
        subst hwr0
        go_loopg [33, 7] 6 (fun gk i cv wr => CRel w6 (x :: r) gk i cv wr)
        case atStart => exact ⟨0, rfl, rfl, rfl, Fr.refl _ _⟩
        case round =>
          obtain ⟨j, hj, rfl, rfl, hf7⟩ := hrel
          by_cases hj6 : j < 6
          · have hcn := cell6 (hf7.get Hb6.out (fun e => e)) hj6
            have hst := hide (starts_any wr T _ (x :: r) (Hcr6.out.still hf7) (⟨#[91, 58]⟩ ++ nmS j ++ ⟨#[58, 93]⟩))
            have hnext := hide (fun (W2 : World) (b : Bool) (hb : b = startsL (x :: r) (⟨#[91, 58]⟩ ++ nmS j ++ ⟨#[58, 93]⟩ : ByteArray).data.toList) (hf : Fr (fun _ => False) wr W2) => (show CRel w6 (x :: r) (gk - 1) (.int .i64 ((j : Int) + 1)) (.string (if b = true then nmS j else clsS (clsJ (x :: r) j))) W2 from ⟨j + 1, by omega, by go_num, by rw [clsS_succ, hb, cat6], hf7.trans hf⟩))
            have hj1 : (0 : Int) ≤ (j : Int) := by omega
            have hj2 : (j : Int) < 6 := by omega
            generalize startsL (x :: r) (⟨#[91, 58]⟩ ++ nmS j ++ ⟨#[58, 93]⟩ : ByteArray).data.toList = sb at hst hnext
            generalize clsS (clsJ (x :: r) j) = cv at hnext ⊢
            have hnsz := nmS_size hj6
            generalize nmS j = nm at hcn hst hnext hnsz
            clear hf7
            go_wp2_with fail
            refine hst.out.mono ?_
            rintro e w7 ⟨rfl, hf7⟩
            cases hsb : sb with
            | true =>
              have hn7 := hide (hnext.out w7 true hsb.symm hf7)
              clear hnext hst hf7 hsb
              go_wp2_with fail
              go_roundg (gk - 1)
              case measure => omega
              case rel => exact hn7.out
            | false =>
              have hn7 := hide (hnext.out w7 false hsb.symm hf7)
              clear hnext hst hf7 hsb
              go_wp2_with fail
              go_roundg (gk - 1)
              case measure => omega
              case rel => exact hn7.out
          · have hj' : j = 6 := by omega
            subst hj'
            rw [← clsJ_all]
            have Hmb8 := hide (hf7.get Hmb6.out (fun e => e))
            have Hcr8 := hide (Hcr6.out.still hf7)
            have Hf8 := hide ((Hf6.out).trans hf7)
            obtain ⟨w8, hw8⟩ : ∃ q, q = wr := ⟨_, rfl⟩
            subst hw8
            clear hf7 Hcr6 Hb6 Hmb6 Hf6
            generalize hcv : clsS (classOf (x :: r)) = cv
            have Hcv := hide hcv
            clear hcv
            go_upto_block 4 with (fail)
            go_cut [6] (fun s6 wx => SwRel mb w8 x r s6 wx)
            case first =>
              have hcv := Hcv.out
              clear Hcv
              cases hcl : classOf (x :: r) with
              | some kn =>
                obtain ⟨kk, nn⟩ := kn
                obtain ⟨h1, h2, h3⟩ := clsJ_spec (x :: r) 6 (Nat.le_refl _) kk nn (by rw [← clsJ_all]; exact hcl)
                have hm : memAt x r = (.cls kk, nn) := by unfold memAt; rw [hcl]
                have hne := nmS_ne h1
                have hnz := nmS_size h1
                have hn2 : nn = (nmS kk).size + 4 := by rw [h2, ← ba_len]; rfl
                have hb := Hmb8.out
                have z0 : w8.frozen? ⟨mb, 0, none⟩ = false := blk_frozen hb 0
                have z1 : w8.frozen? ⟨mb, 1, none⟩ = false := blk_frozen hb 1
                have z2 : w8.frozen? ⟨mb, 2, none⟩ = false := blk_frozen hb 2
                have c0 : w8.cell? ⟨mb, 0, none⟩ = some (.string ⟨#[]⟩) := by rw [blk_cell hb]; rfl
                have c1 : w8.cell? ⟨mb, 1, none⟩ = some (.int .u8 x.b.toNat) := by rw [blk_cell hb]; rfl
                have c2 : w8.cell? ⟨mb, 2, none⟩ = some (.int .u8 x.b.toNat) := by rw [blk_cell hb]; rfl
                have hfin := hide (show SwRel mb w8 x r (.int .i64 (((nmS kk).size : Int) + 4)) (((w8.setCell ⟨mb, 0, none⟩ (.string (nmS kk))).setCell ⟨mb, 1, none⟩ (.int .u8 0)).setCell ⟨mb, 2, none⟩ (.int .u8 0)) from
                  ⟨_, _, hm, by rw [hn2]; rfl, by omega, h3, _, _, _, memV_cls h1, by rw [blk_set (blk_set (blk_set hb _ _) _ _) _ _]; rfl, ((frSet _ _ _ _).trans (frSet _ _ _ _)).trans (frSet _ _ _ _)⟩)
                rw [hcl] at hcv
                have hcv : nmS kk = cv := hcv
                subst hcv
                generalize nmS kk = nm at *
                clear hcl h1 h2 h3 hm hn2 hb
                go_wp2_with fail
                go_meet
                exact hfin.out
              | none =>
                rw [hcl] at hcv
                have hcv : (⟨#[]⟩ : ByteArray) = cv := hcv
                subst hcv
                have hb := Hmb8.out
                have hc8 := Hcr8.out
                cases r with
                | nil =>
                  have hm : memAt x [] = (.rng x.b x.b, 1) := by unfold memAt; rw [hcl]
                  have hfin := hide (fun (W2 : World) (hf : Fr (fun _ => False) w8 W2) => (show SwRel mb w8 x [] (.int .i64 1) W2 from ⟨_, 1, hm, rfl, by omega, by simp, _, _, _, rfl, hf.get hb (fun e => e), hf.mono (fun _ _ e => e.elim)⟩))
                  clear hcl hm hb hc8
                  go_wp2_with fail
                  go_meet
                  exact hfin.out _ (Fr.refl _ _)
                | cons d r =>
                  cases r with
                  | nil =>
                    have hm : memAt x [d] = (.rng x.b x.b, 1) := by unfold memAt; rw [hcl]
                    have hfin := hide (fun (W2 : World) (hf : Fr (fun _ => False) w8 W2) => (show SwRel mb w8 x [d] (.int .i64 1) W2 from ⟨_, 1, hm, rfl, by omega, by simp, _, _, _, rfl, hf.get hb (fun e => e), hf.mono (fun _ _ e => e.elim)⟩))
                    clear hcl hm hb hc8
                    go_wp2_with fail
                    go_meet
                    exact hfin.out _ (Fr.refl _ _)
                  | cons e r =>
                    have ht1 : ChV w8 T (.slice (some ⟨g, o + 2, none⟩) (r.length + 2) (rc - 1)) (d :: e :: r) := hc8.tl (by simp)
                    have ht2 : ChV w8 T (.slice (some ⟨g, o + 4, none⟩) (r.length + 1) (rc - 2)) (e :: r) := by
                      have h9 := ht1.tl (by simp)
                      rw [Nat.sub_sub] at h9
                      exact h9
                    have hst1 := hide (starts_any w8 T _ (d :: e :: r) ht1 ⟨#[45]⟩)
                    have hst2 := hide (fun (W2 : World) (hf : Fr (fun _ => False) w8 W2) => starts_any W2 T _ (e :: r) (ht2.still hf) ⟨#[93]⟩)
                    have hs1 : startsL (d :: e :: r) (ByteArray.mk #[45]).data.toList = decide (d = un dashB) := starts_one d (e :: r) 45
                    have hs2 : startsL (e :: r) (ByteArray.mk #[93]).data.toList = decide (e = un clB) := starts_one e r 93
                    rw [hs1] at hst1
                    rw [hs2] at hst2
                    have Ht2 := hide ht2
                    have hrc0 : r.length + 1 + 1 + 1 ≤ rc := hrc
                    have hrc1 : ¬ rc = 1 := by omega
                    have hrc2 : ¬ rc = 2 := by omega
                    clear ht1 ht2 hs1 hs2 hc8
                    by_cases h1 : d = un dashB
                    · by_cases h2 : e = un clB
                      · have hm : memAt x (d :: e :: r) = (.rng x.b x.b, 1) := by unfold memAt; rw [hcl]; simp [h1, h2]
                        have hfin := hide (fun (W2 : World) (hf : Fr (fun _ => False) w8 W2) => (show SwRel mb w8 x (d :: e :: r) (.int .i64 1) W2 from ⟨_, 1, hm, rfl, by omega, by simp, _, _, _, rfl, hf.get hb (fun e => e), hf.mono (fun _ _ e => e.elim)⟩))
                        rw [decide_eq_true h1] at hst1
                        rw [decide_eq_true h2] at hst2
                        clear hcl hm hb h1 h2
                        go_wp2_with fail
                        refine hst1.out.mono ?_
                        rintro ee w9 ⟨rfl, hf9⟩
                        clear hst1
                        go_wp2_with fail
                        refine (hst2.out w9 hf9).mono ?_
                        rintro ee w10 ⟨rfl, hf10⟩
                        have hfin2 := hide (hfin.out _ (hf9.trans hf10))
                        clear hst2 hf9 hf10 hfin
                        go_wp2_with fail
                        go_meet
                        exact hfin2.out
                      · have hm : memAt x (d :: e :: r) = (.rng x.b e.b, 3) := by unfold memAt; rw [hcl]; simp [h1, h2]
                        have hfin := hide (fun (W2 : World) (hf : Fr (fun _ => False) w8 W2) => (show SwRel mb w8 x (d :: e :: r) (.int .i64 3) (W2.setCell ⟨mb, 2, none⟩ (.int .u8 e.b.toNat)) from ⟨_, 3, hm, rfl, by omega, by simp, _, _, _, rfl, by rw [blk_set (hf.get hb (fun e => e))]; rfl, (hf.mono (fun _ _ e => e.elim)).trans (frSet _ _ _ _)⟩))
                        rw [decide_eq_true h1] at hst1
                        rw [decide_eq_false h2] at hst2
                        clear hcl hm h1 h2
                        go_wp2_with fail
                        refine hst1.out.mono ?_
                        rintro ee w9 ⟨rfl, hf9⟩
                        clear hst1
                        go_wp2_with fail
                        refine (hst2.out w9 hf9).mono ?_
                        rintro ee w10 ⟨rfl, hf10⟩
                        have hf910 := hf9.trans hf10
                        have hfin2 := hide (hfin.out _ hf910)
                        have hmb10 := hf910.get hb (fun e => e)
                        obtain ⟨g9, o9, e9, _, c4, _⟩ := (Ht2.out.still hf910).head
                        cases e9
                        have c5 : w10.cell? ⟨mb, 2, none⟩ = some (.int .u8 x.b.toNat) := by rw [blk_cell hmb10]; rfl
                        have z5 : w10.frozen? ⟨mb, 2, none⟩ = false := blk_frozen hmb10 2
                        clear hst2 hf9 hf10 hfin hf910 hmb10 hb
                        go_wp2_with fail
                        go_meet
                        exact hfin2.out
                    · have hm : memAt x (d :: e :: r) = (.rng x.b x.b, 1) := by unfold memAt; rw [hcl]; simp [h1]
                      have hfin := hide (fun (W2 : World) (hf : Fr (fun _ => False) w8 W2) => (show SwRel mb w8 x (d :: e :: r) (.int .i64 1) W2 from ⟨_, 1, hm, rfl, by omega, by simp, _, _, _, rfl, hf.get hb (fun e => e), hf.mono (fun _ _ e => e.elim)⟩))
                      rw [decide_eq_false h1] at hst1
                      clear hcl hm hb h1 hst2
                      go_wp2_with fail
                      refine hst1.out.mono ?_
                      rintro ee w9 ⟨rfl, hf9⟩
                      have hfin2 := hide (hfin.out _ hf9)
                      clear hst1 hfin hf9
                      go_wp2_with fail
                      go_meet
                      exact hfin2.out
            case rest =>
              obtain ⟨m, nn, hm, rfl, h1, h2, sa, sb, sc, hmv, hmb, hf⟩ := hcut
              have hm9 := Hmb.out
              have hfa : Fr (fun k => ¬ A k) wr0 wc := by
                have h9 := ((Hfc.out.trans Hf5.out).trans Hf8.out).mono (S' := fun k => k = mb) (fun _ _ e => e.elim)
                refine (h9.trans hf).mono (fun q hq e => ?_)
                have h8 := Hfc.out.size
                omega
              have hJ2 := hJf _ _ _ _ HJ.out hfa
              obtain ⟨f, rfl⟩ : ∃ f, fuel = f + 1 := ⟨fuel - 1, by have := Hql.out; rw [List.length_cons] at this; omega⟩
              have hL9 := HL.out
              rw [mem_cons (first := true) (by first | exact .inl rfl | exact Hx.out | exact .inr Hx.out | (have h9 := Hx.out; simpa using h9)) hm] at hL9
              have hdr : (membersL p.length true p).drop (s + 1) = membersL f false ((x :: r).drop nn) := by
                rw [← List.drop_drop, hL9]
                rfl
              have hlt : s < (membersL p.length true p).length := by
                apply Decidable.byContradiction
                intro hge
                rw [List.drop_eq_nil_of_le (by omega)] at hL9
                cases hL9
              have hat : (membersL p.length true p)[s] = (m, (x :: r).drop nn) := by
                have h9 := congrArg (fun l => l[0]?) hL9
                simpa [List.getElem?_drop, hlt] using h9
              clear hL9
              have hkk : p.length - ((x :: r).drop nn).length = k + nn := by rw [List.length_drop]; have := Hql.out; omega
              have hlen3 := Hql.out
              rw [List.length_cons] at hlen3 h2
              by_cases hrn : rc = nn
              · have hrn2 : rc = nn := hrn
                have hsub2 : Sub pv (.slice (some ⟨g, o, none⟩) (r.length + 1 - nn) 0) (k + nn) := by
                  have h9 := Hsub.out.cut (j := nn) h2
                  rw [if_pos hrn, show rc - nn = 0 by omega] at h9
                  exact h9
                obtain ⟨fn, tmps, assign, body, hy, hR⟩ := hY s A (m, .slice (some ⟨g, o, none⟩) (r.length + 1 - nn) 0) (s + 1) wc ⟨by omega, by rw [hat], by rw [hat]; show Sub pv _ (p.length - ((x :: r).drop nn).length); rw [hkk]; exact hsub2, rfl⟩ hJ2
                simp only [menc] at hy hR
                rw [hmv] at hy
                have hnext := hide (fun (W3 : World) (h : J (s + 1) (fun k => A k ∨ (wc.heap.size ≤ k ∧ k < W3.heap.size)) W3) => (show MRel pv p J (gk0 - nn) (.bool false) (.slice (some ⟨g, o, none⟩) (r.length + 1 - nn) 0) W3 from ⟨false, k + nn, s + 1, f, _, rfl, by omega, hsub2, by omega, by omega, by rw [← Hqd.out nn]; exact hdr, h⟩))
                have HR := hide hR
                have c0 : wc.cell? ⟨mb, 0, none⟩ = some (.string sa) := by rw [blk_cell hmb]; rfl
                have c1 : wc.cell? ⟨mb, 1, none⟩ = some (.int .u8 sb) := by rw [blk_cell hmb]; rfl
                have c2 : wc.cell? ⟨mb, 2, none⟩ = some (.int .u8 sc) := by rw [blk_cell hmb]; rfl
                have hgk : gk0 - nn < gk0 := by omega
                clear hsub2 hR hat hdr hJ2 hmv hmb hm hm9 hlen3 hfa hkk hk
                go_upto_region 17 with (fail)
                refine (wpIn_wide (n := n)).1 ?_
                gi_wp2
                refine ⟨fun h9 => (by cases h9), ?_⟩
                refine HR.out.mono ?_
                rintro e W3 ⟨_, rfl, hJ3⟩
                have hn3 := hide (hnext.out W3 hJ3)
                clear HR hnext hJ3
                gi_wp2
                go_wp2_with fail
                go_roundg (gk0 - nn)
                case measure => omega
                case rel => exact hn3.out
              · have hrn2 : ¬ rc = nn := hrn
                have hsub2 : Sub pv (.slice (some ⟨g, o + nn * 2, none⟩) (r.length + 1 - nn) (rc - nn)) (k + nn) := by
                  have h9 := Hsub.out.cut (j := nn) h2
                  rw [if_neg hrn] at h9
                  have h9 : Sub pv (.slice (some (Addr.add ⟨g, o, none⟩ (nn * 2))) (r.length + 1 - nn) (rc - nn)) (k + nn) := h9
                  rw [Addr.add_lit] at h9
                  exact h9
                obtain ⟨fn, tmps, assign, body, hy, hR⟩ := hY s A (m, .slice (some ⟨g, o + nn * 2, none⟩) (r.length + 1 - nn) (rc - nn)) (s + 1) wc ⟨by omega, by rw [hat], by rw [hat]; show Sub pv _ (p.length - ((x :: r).drop nn).length); rw [hkk]; exact hsub2, rfl⟩ hJ2
                simp only [menc] at hy hR
                rw [hmv] at hy
                have hnext := hide (fun (W3 : World) (h : J (s + 1) (fun k => A k ∨ (wc.heap.size ≤ k ∧ k < W3.heap.size)) W3) => (show MRel pv p J (gk0 - nn) (.bool false) (.slice (some ⟨g, o + nn * 2, none⟩) (r.length + 1 - nn) (rc - nn)) W3 from ⟨false, k + nn, s + 1, f, _, rfl, by omega, hsub2, by omega, by omega, by rw [← Hqd.out nn]; exact hdr, h⟩))
                have HR := hide hR
                have c0 : wc.cell? ⟨mb, 0, none⟩ = some (.string sa) := by rw [blk_cell hmb]; rfl
                have c1 : wc.cell? ⟨mb, 1, none⟩ = some (.int .u8 sb) := by rw [blk_cell hmb]; rfl
                have c2 : wc.cell? ⟨mb, 2, none⟩ = some (.int .u8 sc) := by rw [blk_cell hmb]; rfl
                have hgk : gk0 - nn < gk0 := by omega
                clear hsub2 hR hat hdr hJ2 hmv hmb hm hm9 hlen3 hfa hkk hk
                go_upto_region 17 with (fail)
                refine (wpIn_wide (n := n)).1 ?_
                gi_wp2
                refine ⟨fun h9 => (by cases h9), ?_⟩
                refine HR.out.mono ?_
                rintro e W3 ⟨_, rfl, hJ3⟩
                have hn3 := hide (hnext.out W3 hJ3)
                clear HR hnext hJ3
                gi_wp2
                go_wp2_with fail
                go_roundg (gk0 - nn)
                case measure => omega
                case rel => exact hn3.out
      | false =>
        have hst := hide (starts_any wr T _ (x :: r) Hcr.out ⟨#[93]⟩)
        have hs1 : startsL (x :: r) (ByteArray.mk #[93]).data.toList = decide (x = un clB) := starts_one x r 93
        rw [hs1] at hst
        by_cases hx : x = un clB
        · rw [decide_eq_true hx] at hst
          have hfin := hide (fun (W2 : World) (hf : Fr (fun _ => False) wr W2) => (show ∃ A, J (membersL p.length true p).length A W2 from ⟨A, by
            have h1 := HL.out
            have h2 : membersL fuel false (x :: r) = [] := by
              cases fuel with
              | zero => rfl
              | succ f => unfold membersL; rw [if_neg (by simp [hx])]
            rw [h2, List.drop_eq_nil_iff] at h1
            have h3 : s = (membersL p.length true p).length := by omega
            rw [← h3]
            exact hJf _ _ _ _ HJ.out (hf.mono (fun _ _ e => e.elim))⟩))
          clear HJ Hsub HL Hcr Hqd
          go_wp2_with fail
          refine hst.out.mono ?_
          rintro e w2 ⟨rfl, hf2⟩
          have hfin2 := hide (hfin.out w2 hf2)
          clear hst hf2 hfin
          go_wp2_with fail
          go_end0
          exact ⟨⟨_, rfl⟩, hfin2.out⟩
        · rw [decide_eq_false hx] at hst
          have Hx := hide (show false = true ∨ x ≠ un clB from .inr hx)
          clear hx hs1
          go_wp2_with fail
          refine hst.out.mono ?_
          rintro e wc ⟨rfl, hfc⟩
          have Hfc := hide hfc
          clear hst hfc
          go_upto_region 4 with (fail)
          have hcr := Hcr.out.still Hfc.out
          obtain ⟨g, o, rfl, hg, c0, c1⟩ := hcr.head
          clear hcr
          refine region_calls (fun w' => w'.cell? ⟨g, o, none⟩ = some (.int .u8 x.b.toNat)) [0, 1, 2, 3, 4, 5, 6, 7, 8] [9] 10 (by kernel_rfl) (by kernel_rfl) (fun _ _ d _ _ h => by cases d <;> exact h) c0 ?_
          simp only [List.map_cons, List.map_nil, List.getD_cons_zero, List.getD_cons_succ, List.drop_succ_cons, List.drop_zero]
          go_big_quiet_step (fail)
          refine wpQuiet_val (.pointer (some ⟨g, o, none⟩)) rfl (fun w' hS => by (go_simp)) ?_
          simp only [Act.put, List.setIfInBounds_toArray, List.set_cons_succ, List.set_cons_zero]
          refine wpQuiet_val (.pointer (some ⟨g, o, none⟩)) rfl (fun w' hS => by (go_simp)) ?_
          simp only [Act.put, List.setIfInBounds_toArray, List.set_cons_succ, List.set_cons_zero]
          refine wpQuiet_val (.int .u8 x.b.toNat) rfl (fun w' hS => by (go_simp)) ?_
          simp only [Act.put, List.setIfInBounds_toArray, List.set_cons_succ, List.set_cons_zero]
          go_big_quiet_step (fail)
          refine wpQuiet_val (.pointer (some ⟨g, o, none⟩)) rfl (fun w' hS => by (go_simp)) ?_
          simp only [Act.put, List.setIfInBounds_toArray, List.set_cons_succ, List.set_cons_zero]
          refine wpQuiet_val (.pointer (some ⟨g, o, none⟩)) rfl (fun w' hS => by (go_simp)) ?_
          simp only [Act.put, List.setIfInBounds_toArray, List.set_cons_succ, List.set_cons_zero]
          refine wpQuiet_val (.int .u8 x.b.toNat) rfl (fun w' hS => by (go_simp)) ?_
          simp only [Act.put, List.setIfInBounds_toArray, List.set_cons_succ, List.set_cons_zero]
          refine wpQuiet_val (.agg #[.string ⟨#[]⟩, .int .u8 x.b.toNat, .int .u8 x.b.toNat]) rfl (fun w' hS => by (go_simp)) ?_
          simp only [Act.put, List.setIfInBounds_toArray, List.set_cons_succ, List.set_cons_zero]
          refine wpQuiet_nil ?_
          refine chainS_step rfl (fun K hK => ?_)
          go_wp2_with fail
          refine hK _ _ ?hS9 ?_
          case hS9 => exact (World.cell?_of_block (a := ⟨g, o, none⟩) (Below.heap_alloc _ _ g hg)).trans c0
          clear hK K
          refine chainS_nil ?_
          go_upto_region 5 with (fail)
          obtain ⟨w5, hw5⟩ : ∃ w5, w5 = (wc.alloc (.cells #[.string ⟨#[]⟩, .int .u8 x.b.toNat, .int .u8 x.b.toNat] 168 (0, 0))).drew := ⟨_, rfl⟩
          obtain ⟨mb, hmb⟩ : ∃ mb, mb = wc.heap.size := ⟨_, rfl⟩
          have hb5 : w5.heap[mb]? = some (.cells #[.string ⟨#[]⟩, .int .u8 x.b.toNat, .int .u8 x.b.toNat] 168 (0, 0)) := by rw [hw5, hmb]; exact blk_drew (blk_new _ _)
          have hf5 : Fr (fun _ => False) wc w5 := by rw [hw5]; exact ((Fr.refl _ _).alloc _).drew
          rw [← hw5, ← hmb]
          have Hmb := hide hmb
          have Hf5 := hide hf5
          clear hw5 hmb hf5 c0 c1
          go_upto_region 7 with (fail)
          obtain ⟨w6, hw6⟩ : ∃ w6, w6 = w5.alloc (.cells #[.string ⟨#[97, 108, 112, 104, 97]⟩, .string ⟨#[100, 105, 103, 105, 116]⟩, .string ⟨#[97, 108, 110, 117, 109]⟩, .string ⟨#[117, 112, 112, 101, 114]⟩, .string ⟨#[108, 111, 119, 101, 114]⟩, .string ⟨#[115, 112, 97, 99, 101]⟩] 9 (0, 0)) := ⟨_, rfl⟩
          obtain ⟨nb, hnb⟩ : ∃ nb, nb = w5.heap.size := ⟨_, rfl⟩
          have hb6 : w6.heap[nb]? = some (.cells #[.string ⟨#[97, 108, 112, 104, 97]⟩, .string ⟨#[100, 105, 103, 105, 116]⟩, .string ⟨#[97, 108, 110, 117, 109]⟩, .string ⟨#[117, 112, 112, 101, 114]⟩, .string ⟨#[108, 111, 119, 101, 114]⟩, .string ⟨#[115, 112, 97, 99, 101]⟩] 9 (0, 0)) := by rw [hw6, hnb]; exact blk_new _ _
          have hf6 : Fr (fun _ => False) w5 w6 := by rw [hw6]; exact (Fr.refl _ _).alloc _
          have hcr6 := ((Hcr.out.still Hfc.out).still Hf5.out).still hf6
          have hmb6 := hf6.get hb5 (fun e => e)
          rw [← hw6, ← hnb]
          have Hf6 := hide hf6
          have Hcr6 := hide hcr6
          have Hb6 := hide hb6
          have Hmb6 := hide hmb6
          clear hw6 hnb hf6 hcr6 hb6 hb5 hmb6
          obtain ⟨gk0, hgk0⟩ : ∃ q, q = gk := ⟨_, rfl⟩
          subst hgk0
          obtain ⟨wr0, hwr0⟩ : ∃ q, q = wr := ⟨_, rfl⟩
          subst hwr0
          go_loopg [33, 7] 6 (fun gk i cv wr => CRel w6 (x :: r) gk i cv wr)
          case atStart => exact ⟨0, rfl, rfl, rfl, Fr.refl _ _⟩
          case round =>
            obtain ⟨j, hj, rfl, rfl, hf7⟩ := hrel
            by_cases hj6 : j < 6
            · have hcn := cell6 (hf7.get Hb6.out (fun e => e)) hj6
              have hst := hide (starts_any wr T _ (x :: r) (Hcr6.out.still hf7) (⟨#[91, 58]⟩ ++ nmS j ++ ⟨#[58, 93]⟩))
              have hnext := hide (fun (W2 : World) (b : Bool) (hb : b = startsL (x :: r) (⟨#[91, 58]⟩ ++ nmS j ++ ⟨#[58, 93]⟩ : ByteArray).data.toList) (hf : Fr (fun _ => False) wr W2) => (show CRel w6 (x :: r) (gk - 1) (.int .i64 ((j : Int) + 1)) (.string (if b = true then nmS j else clsS (clsJ (x :: r) j))) W2 from ⟨j + 1, by omega, by go_num, by rw [clsS_succ, hb, cat6], hf7.trans hf⟩))
              have hj1 : (0 : Int) ≤ (j : Int) := by omega
              have hj2 : (j : Int) < 6 := by omega
              generalize startsL (x :: r) (⟨#[91, 58]⟩ ++ nmS j ++ ⟨#[58, 93]⟩ : ByteArray).data.toList = sb at hst hnext
              generalize clsS (clsJ (x :: r) j) = cv at hnext ⊢
              have hnsz := nmS_size hj6
              generalize nmS j = nm at hcn hst hnext hnsz
              clear hf7
              go_wp2_with fail
              refine hst.out.mono ?_
              rintro e w7 ⟨rfl, hf7⟩
              cases hsb : sb with
              | true =>
                have hn7 := hide (hnext.out w7 true hsb.symm hf7)
                clear hnext hst hf7 hsb
                go_wp2_with fail
                go_roundg (gk - 1)
                case measure => omega
                case rel => exact hn7.out
              | false =>
                have hn7 := hide (hnext.out w7 false hsb.symm hf7)
                clear hnext hst hf7 hsb
                go_wp2_with fail
                go_roundg (gk - 1)
                case measure => omega
                case rel => exact hn7.out
            · have hj' : j = 6 := by omega
              subst hj'
              rw [← clsJ_all]
              have Hmb8 := hide (hf7.get Hmb6.out (fun e => e))
              have Hcr8 := hide (Hcr6.out.still hf7)
              have Hf8 := hide ((Hf6.out).trans hf7)
              obtain ⟨w8, hw8⟩ : ∃ q, q = wr := ⟨_, rfl⟩
              subst hw8
              clear hf7 Hcr6 Hb6 Hmb6 Hf6
              generalize hcv : clsS (classOf (x :: r)) = cv
              have Hcv := hide hcv
              clear hcv
              go_upto_block 4 with (fail)
              go_cut [6] (fun s6 wx => SwRel mb w8 x r s6 wx)
              case first =>
                have hcv := Hcv.out
                clear Hcv
                cases hcl : classOf (x :: r) with
                | some kn =>
                  obtain ⟨kk, nn⟩ := kn
                  obtain ⟨h1, h2, h3⟩ := clsJ_spec (x :: r) 6 (Nat.le_refl _) kk nn (by rw [← clsJ_all]; exact hcl)
                  have hm : memAt x r = (.cls kk, nn) := by unfold memAt; rw [hcl]
                  have hne := nmS_ne h1
                  have hnz := nmS_size h1
                  have hn2 : nn = (nmS kk).size + 4 := by rw [h2, ← ba_len]; rfl
                  have hb := Hmb8.out
                  have z0 : w8.frozen? ⟨mb, 0, none⟩ = false := blk_frozen hb 0
                  have z1 : w8.frozen? ⟨mb, 1, none⟩ = false := blk_frozen hb 1
                  have z2 : w8.frozen? ⟨mb, 2, none⟩ = false := blk_frozen hb 2
                  have c0 : w8.cell? ⟨mb, 0, none⟩ = some (.string ⟨#[]⟩) := by rw [blk_cell hb]; rfl
                  have c1 : w8.cell? ⟨mb, 1, none⟩ = some (.int .u8 x.b.toNat) := by rw [blk_cell hb]; rfl
                  have c2 : w8.cell? ⟨mb, 2, none⟩ = some (.int .u8 x.b.toNat) := by rw [blk_cell hb]; rfl
                  have hfin := hide (show SwRel mb w8 x r (.int .i64 (((nmS kk).size : Int) + 4)) (((w8.setCell ⟨mb, 0, none⟩ (.string (nmS kk))).setCell ⟨mb, 1, none⟩ (.int .u8 0)).setCell ⟨mb, 2, none⟩ (.int .u8 0)) from
                    ⟨_, _, hm, by rw [hn2]; rfl, by omega, h3, _, _, _, memV_cls h1, by rw [blk_set (blk_set (blk_set hb _ _) _ _) _ _]; rfl, ((frSet _ _ _ _).trans (frSet _ _ _ _)).trans (frSet _ _ _ _)⟩)
                  rw [hcl] at hcv
                  have hcv : nmS kk = cv := hcv
                  subst hcv
                  generalize nmS kk = nm at *
                  clear hcl h1 h2 h3 hm hn2 hb
                  go_wp2_with fail
                  go_meet
                  exact hfin.out
                | none =>
                  rw [hcl] at hcv
                  have hcv : (⟨#[]⟩ : ByteArray) = cv := hcv
                  subst hcv
                  have hb := Hmb8.out
                  have hc8 := Hcr8.out
                  cases r with
                  | nil =>
                    have hm : memAt x [] = (.rng x.b x.b, 1) := by unfold memAt; rw [hcl]
                    have hfin := hide (fun (W2 : World) (hf : Fr (fun _ => False) w8 W2) => (show SwRel mb w8 x [] (.int .i64 1) W2 from ⟨_, 1, hm, rfl, by omega, by simp, _, _, _, rfl, hf.get hb (fun e => e), hf.mono (fun _ _ e => e.elim)⟩))
                    clear hcl hm hb hc8
                    go_wp2_with fail
                    go_meet
                    exact hfin.out _ (Fr.refl _ _)
                  | cons d r =>
                    cases r with
                    | nil =>
                      have hm : memAt x [d] = (.rng x.b x.b, 1) := by unfold memAt; rw [hcl]
                      have hfin := hide (fun (W2 : World) (hf : Fr (fun _ => False) w8 W2) => (show SwRel mb w8 x [d] (.int .i64 1) W2 from ⟨_, 1, hm, rfl, by omega, by simp, _, _, _, rfl, hf.get hb (fun e => e), hf.mono (fun _ _ e => e.elim)⟩))
                      clear hcl hm hb hc8
                      go_wp2_with fail
                      go_meet
                      exact hfin.out _ (Fr.refl _ _)
                    | cons e r =>
                      have ht1 : ChV w8 T (.slice (some ⟨g, o + 2, none⟩) (r.length + 2) (rc - 1)) (d :: e :: r) := hc8.tl (by simp)
                      have ht2 : ChV w8 T (.slice (some ⟨g, o + 4, none⟩) (r.length + 1) (rc - 2)) (e :: r) := by
                        have h9 := ht1.tl (by simp)
                        rw [Nat.sub_sub] at h9
                        exact h9
                      have hst1 := hide (starts_any w8 T _ (d :: e :: r) ht1 ⟨#[45]⟩)
                      have hst2 := hide (fun (W2 : World) (hf : Fr (fun _ => False) w8 W2) => starts_any W2 T _ (e :: r) (ht2.still hf) ⟨#[93]⟩)
                      have hs1 : startsL (d :: e :: r) (ByteArray.mk #[45]).data.toList = decide (d = un dashB) := starts_one d (e :: r) 45
                      have hs2 : startsL (e :: r) (ByteArray.mk #[93]).data.toList = decide (e = un clB) := starts_one e r 93
                      rw [hs1] at hst1
                      rw [hs2] at hst2
                      have Ht2 := hide ht2
                      have hrc0 : r.length + 1 + 1 + 1 ≤ rc := hrc
                      have hrc1 : ¬ rc = 1 := by omega
                      have hrc2 : ¬ rc = 2 := by omega
                      clear ht1 ht2 hs1 hs2 hc8
                      by_cases h1 : d = un dashB
                      · by_cases h2 : e = un clB
                        · have hm : memAt x (d :: e :: r) = (.rng x.b x.b, 1) := by unfold memAt; rw [hcl]; simp [h1, h2]
                          have hfin := hide (fun (W2 : World) (hf : Fr (fun _ => False) w8 W2) => (show SwRel mb w8 x (d :: e :: r) (.int .i64 1) W2 from ⟨_, 1, hm, rfl, by omega, by simp, _, _, _, rfl, hf.get hb (fun e => e), hf.mono (fun _ _ e => e.elim)⟩))
                          rw [decide_eq_true h1] at hst1
                          rw [decide_eq_true h2] at hst2
                          clear hcl hm hb h1 h2
                          go_wp2_with fail
                          refine hst1.out.mono ?_
                          rintro ee w9 ⟨rfl, hf9⟩
                          clear hst1
                          go_wp2_with fail
                          refine (hst2.out w9 hf9).mono ?_
                          rintro ee w10 ⟨rfl, hf10⟩
                          have hfin2 := hide (hfin.out _ (hf9.trans hf10))
                          clear hst2 hf9 hf10 hfin
                          go_wp2_with fail
                          go_meet
                          exact hfin2.out
                        · have hm : memAt x (d :: e :: r) = (.rng x.b e.b, 3) := by unfold memAt; rw [hcl]; simp [h1, h2]
                          have hfin := hide (fun (W2 : World) (hf : Fr (fun _ => False) w8 W2) => (show SwRel mb w8 x (d :: e :: r) (.int .i64 3) (W2.setCell ⟨mb, 2, none⟩ (.int .u8 e.b.toNat)) from ⟨_, 3, hm, rfl, by omega, by simp, _, _, _, rfl, by rw [blk_set (hf.get hb (fun e => e))]; rfl, (hf.mono (fun _ _ e => e.elim)).trans (frSet _ _ _ _)⟩))
                          rw [decide_eq_true h1] at hst1
                          rw [decide_eq_false h2] at hst2
                          clear hcl hm h1 h2
                          go_wp2_with fail
                          refine hst1.out.mono ?_
                          rintro ee w9 ⟨rfl, hf9⟩
                          clear hst1
                          go_wp2_with fail
                          refine (hst2.out w9 hf9).mono ?_
                          rintro ee w10 ⟨rfl, hf10⟩
                          have hf910 := hf9.trans hf10
                          have hfin2 := hide (hfin.out _ hf910)
                          have hmb10 := hf910.get hb (fun e => e)
                          obtain ⟨g9, o9, e9, _, c4, _⟩ := (Ht2.out.still hf910).head
                          cases e9
                          have c5 : w10.cell? ⟨mb, 2, none⟩ = some (.int .u8 x.b.toNat) := by rw [blk_cell hmb10]; rfl
                          have z5 : w10.frozen? ⟨mb, 2, none⟩ = false := blk_frozen hmb10 2
                          clear hst2 hf9 hf10 hfin hf910 hmb10 hb
                          go_wp2_with fail
                          go_meet
                          exact hfin2.out
                      · have hm : memAt x (d :: e :: r) = (.rng x.b x.b, 1) := by unfold memAt; rw [hcl]; simp [h1]
                        have hfin := hide (fun (W2 : World) (hf : Fr (fun _ => False) w8 W2) => (show SwRel mb w8 x (d :: e :: r) (.int .i64 1) W2 from ⟨_, 1, hm, rfl, by omega, by simp, _, _, _, rfl, hf.get hb (fun e => e), hf.mono (fun _ _ e => e.elim)⟩))
                        rw [decide_eq_false h1] at hst1
                        clear hcl hm hb h1 hst2
                        go_wp2_with fail
                        refine hst1.out.mono ?_
                        rintro ee w9 ⟨rfl, hf9⟩
                        have hfin2 := hide (hfin.out _ hf9)
                        clear hst1 hfin hf9
                        go_wp2_with fail
                        go_meet
                        exact hfin2.out
              case rest =>
                obtain ⟨m, nn, hm, rfl, h1, h2, sa, sb, sc, hmv, hmb, hf⟩ := hcut
                have hm9 := Hmb.out
                have hfa : Fr (fun k => ¬ A k) wr0 wc := by
                  have h9 := ((Hfc.out.trans Hf5.out).trans Hf8.out).mono (S' := fun k => k = mb) (fun _ _ e => e.elim)
                  refine (h9.trans hf).mono (fun q hq e => ?_)
                  have h8 := Hfc.out.size
                  omega
                have hJ2 := hJf _ _ _ _ HJ.out hfa
                obtain ⟨f, rfl⟩ : ∃ f, fuel = f + 1 := ⟨fuel - 1, by have := Hql.out; rw [List.length_cons] at this; omega⟩
                have hL9 := HL.out
                rw [mem_cons (first := false) (by first | exact .inl rfl | exact Hx.out | exact .inr Hx.out | (have h9 := Hx.out; simpa using h9)) hm] at hL9
                have hdr : (membersL p.length true p).drop (s + 1) = membersL f false ((x :: r).drop nn) := by
                  rw [← List.drop_drop, hL9]
                  rfl
                have hlt : s < (membersL p.length true p).length := by
                  apply Decidable.byContradiction
                  intro hge
                  rw [List.drop_eq_nil_of_le (by omega)] at hL9
                  cases hL9
                have hat : (membersL p.length true p)[s] = (m, (x :: r).drop nn) := by
                  have h9 := congrArg (fun l => l[0]?) hL9
                  simpa [List.getElem?_drop, hlt] using h9
                clear hL9
                have hkk : p.length - ((x :: r).drop nn).length = k + nn := by rw [List.length_drop]; have := Hql.out; omega
                have hlen3 := Hql.out
                rw [List.length_cons] at hlen3 h2
                by_cases hrn : rc = nn
                · have hrn2 : rc = nn := hrn
                  have hsub2 : Sub pv (.slice (some ⟨g, o, none⟩) (r.length + 1 - nn) 0) (k + nn) := by
                    have h9 := Hsub.out.cut (j := nn) h2
                    rw [if_pos hrn, show rc - nn = 0 by omega] at h9
                    exact h9
                  obtain ⟨fn, tmps, assign, body, hy, hR⟩ := hY s A (m, .slice (some ⟨g, o, none⟩) (r.length + 1 - nn) 0) (s + 1) wc ⟨by omega, by rw [hat], by rw [hat]; show Sub pv _ (p.length - ((x :: r).drop nn).length); rw [hkk]; exact hsub2, rfl⟩ hJ2
                  simp only [menc] at hy hR
                  rw [hmv] at hy
                  have hnext := hide (fun (W3 : World) (h : J (s + 1) (fun k => A k ∨ (wc.heap.size ≤ k ∧ k < W3.heap.size)) W3) => (show MRel pv p J (gk0 - nn) (.bool false) (.slice (some ⟨g, o, none⟩) (r.length + 1 - nn) 0) W3 from ⟨false, k + nn, s + 1, f, _, rfl, by omega, hsub2, by omega, by omega, by rw [← Hqd.out nn]; exact hdr, h⟩))
                  have HR := hide hR
                  have c0 : wc.cell? ⟨mb, 0, none⟩ = some (.string sa) := by rw [blk_cell hmb]; rfl
                  have c1 : wc.cell? ⟨mb, 1, none⟩ = some (.int .u8 sb) := by rw [blk_cell hmb]; rfl
                  have c2 : wc.cell? ⟨mb, 2, none⟩ = some (.int .u8 sc) := by rw [blk_cell hmb]; rfl
                  have hgk : gk0 - nn < gk0 := by omega
                  clear hsub2 hR hat hdr hJ2 hmv hmb hm hm9 hlen3 hfa hkk hk
                  go_upto_region 17 with (fail)
                  refine (wpIn_wide (n := n)).1 ?_
                  gi_wp2
                  refine ⟨fun h9 => (by cases h9), ?_⟩
                  refine HR.out.mono ?_
                  rintro e W3 ⟨_, rfl, hJ3⟩
                  have hn3 := hide (hnext.out W3 hJ3)
                  clear HR hnext hJ3
                  gi_wp2
                  go_wp2_with fail
                  go_roundg (gk0 - nn)
                  case measure => omega
                  case rel => exact hn3.out
                · have hrn2 : ¬ rc = nn := hrn
                  have hsub2 : Sub pv (.slice (some ⟨g, o + nn * 2, none⟩) (r.length + 1 - nn) (rc - nn)) (k + nn) := by
                    have h9 := Hsub.out.cut (j := nn) h2
                    rw [if_neg hrn] at h9
                    have h9 : Sub pv (.slice (some (Addr.add ⟨g, o, none⟩ (nn * 2))) (r.length + 1 - nn) (rc - nn)) (k + nn) := h9
                    rw [Addr.add_lit] at h9
                    exact h9
                  obtain ⟨fn, tmps, assign, body, hy, hR⟩ := hY s A (m, .slice (some ⟨g, o + nn * 2, none⟩) (r.length + 1 - nn) (rc - nn)) (s + 1) wc ⟨by omega, by rw [hat], by rw [hat]; show Sub pv _ (p.length - ((x :: r).drop nn).length); rw [hkk]; exact hsub2, rfl⟩ hJ2
                  simp only [menc] at hy hR
                  rw [hmv] at hy
                  have hnext := hide (fun (W3 : World) (h : J (s + 1) (fun k => A k ∨ (wc.heap.size ≤ k ∧ k < W3.heap.size)) W3) => (show MRel pv p J (gk0 - nn) (.bool false) (.slice (some ⟨g, o + nn * 2, none⟩) (r.length + 1 - nn) (rc - nn)) W3 from ⟨false, k + nn, s + 1, f, _, rfl, by omega, hsub2, by omega, by omega, by rw [← Hqd.out nn]; exact hdr, h⟩))
                  have HR := hide hR
                  have c0 : wc.cell? ⟨mb, 0, none⟩ = some (.string sa) := by rw [blk_cell hmb]; rfl
                  have c1 : wc.cell? ⟨mb, 1, none⟩ = some (.int .u8 sb) := by rw [blk_cell hmb]; rfl
                  have c2 : wc.cell? ⟨mb, 2, none⟩ = some (.int .u8 sc) := by rw [blk_cell hmb]; rfl
                  have hgk : gk0 - nn < gk0 := by omega
                  clear hsub2 hR hat hdr hJ2 hmv hmb hm hm9 hlen3 hfa hkk hk
                  go_upto_region 17 with (fail)
                  refine (wpIn_wide (n := n)).1 ?_
                  gi_wp2
                  refine ⟨fun h9 => (by cases h9), ?_⟩
                  refine HR.out.mono ?_
                  rintro e W3 ⟨_, rfl, hJ3⟩
                  have hn3 := hide (hnext.out W3 hJ3)
                  clear HR hnext hJ3
                  gi_wp2
                  go_wp2_with fail
                  go_roundg (gk0 - nn)
                  case measure => omega
                  case rel => exact hn3.out
end Go.Proofs.YtlhmmiolnbgloaaGreatDoor
