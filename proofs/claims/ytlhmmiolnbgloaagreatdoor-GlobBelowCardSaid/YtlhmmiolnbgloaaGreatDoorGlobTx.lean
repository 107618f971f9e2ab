/- pattern.Plain, pattern.Of. Conditions: the contracts' own premises. -/
import Derived.Test.YtlhmmiolnbgloaaGreatDoorRangeFunc
import Derived.Test.YtlhmmiolnbgloaaGreatDoorStrs
import Derived.Test.YtlhmmiolnbgloaaGreatDoorOwn
import Derived.Laws.AppendOwn
import Derived.Lib.ConvBytes
import Derived.Test.YtlhmmiolnbgloaaGreatDoorGlobXP
import Derived.Test.YtlhmmiolnbgloaaGreatDoorGlobXP
namespace Go.Proofs.YtlhmmiolnbgloaaGreatDoor
open Go.RowKit

def chCells (p : List Ch) : List Value := p.flatMap fun c => [.int .u8 c.b.toNat, .bool c.q]
theorem chCells_len (p : List Ch) : (chCells p).length = p.length * 2 := by
  induction p with
  | nil => rfl
  | cons c p ih =>
    have : chCells (c :: p) = [.int .u8 c.b.toNat, .bool c.q] ++ chCells p := rfl
    rw [this, List.length_append, ih]
    simp
    omega
theorem chCells_app (p q : List Ch) : chCells (p ++ q) = chCells p ++ chCells q := List.flatMap_append
theorem chCells_at : ∀ {p : List Ch} {j : Nat} (h : j < p.length), (chCells p)[j * 2]? = some (.int .u8 p[j].b.toNat) ∧ (chCells p)[j * 2 + 1]? = some (.bool p[j].q)
  | c :: p, 0, _ => ⟨rfl, rfl⟩
  | c :: p, j + 1, h => by
    have ih := chCells_at (p := p) (j := j) (by simpa using h)
    have : chCells (c :: p) = .int .u8 c.b.toNat :: .bool c.q :: chCells p := rfl
    rw [this, show (j + 1) * 2 = j * 2 + 1 + 1 by omega]
    exact ih
theorem chCells_one (p : List Ch) : ∀ u ∈ chCells p, u.oneCell' = true := fun u hu => by
  obtain ⟨c, _, h⟩ := List.mem_flatMap.1 hu
  simp only [List.mem_cons, List.not_mem_nil, or_false] at h
  rcases h with rfl | rfl <;> rfl
theorem own_ch {w : World} {base e : Nat} {v : Value} {p : List Ch} (h : w.ownsRow base e 2 v p.length (chCells p)) : ChV w (fun k => base ≤ k) v p := by
  rcases h.2 with ⟨h1, h2⟩ | ⟨g, cap, cur, h1, hb, hg, h2, h3, h4, h5⟩
  · exact ⟨none, 0, by rw [h1, h2], by omega, by omega, .inl (List.eq_nil_of_length_eq_zero h2)⟩
  · refine ⟨_, cap, h1, h2, by unfold maxLen at h3; omega, .inr ⟨g, 0, rfl, hb, blk_lt hg, fun j hj => ?_⟩⟩
    obtain ⟨e1, e2⟩ := chCells_at hj
    rw [blk_cell hg, blk_cell hg, Nat.zero_add]
    rw [← h5, List.getElem?_take_of_lt (by omega), Array.getElem?_toList] at e1 e2
    exact ⟨e1, e2⟩
theorem fr_bytes (w : World) (e : TypeId) (s : ByteArray) : Fr (fun _ => False) w (Lib.bytesWorld w e s) :=
  ⟨rfl, rfl, rfl, by rw [Lib.bytesWorld_size]; omega, fun k hk _ => Lib.bytesWorld_at_old w e s k hk⟩
theorem ch_info : (Tryz.prog.info? 35).map (fun i => (i.zero, i.size, i.bytes)) = some (some (.agg #[.int .u8 0, .bool false]), 2, 2) := by kernel_rfl
def ChPost (w : World) (p : List Ch) (e : Ending) (w' : World) : Prop := ∃ v, e = .returned v ∧ w'.ownsRow w.heap.size 35 2 v p.length (chCells p) ∧ Fr (fun _ => False) w w'
def PlRel (w w1 : World) (s : ByteArray) (gk : Nat) (v' i : Value) (wr : World) : Prop := ∃ (v : Value) (k : Nat), v = v' ∧ gk + k = s.size ∧ i = .int .i64 k ∧ wr.ownsRow w1.heap.size 35 2 v k (chCells (plainL (s.data.toList.take k))) ∧ Fr (fun _ => False) w1 wr
set_option maxRecDepth 100000 in
set_option maxHeartbeats 1000000 in
theorem plain_any (w : World) (s : ByteArray) (hs : s.size ≤ 1000000) : Calls Tryz.prog 8 #[.string s] w (ChPost w (plainL s.data.toList)) := by
  obtain ⟨i0, hi, hz0, hz1, hz2⟩ := info_parts ch_info
  have hcv := Lib.run_convert_string_bytes (P := Tryz.prog) w 9 63 5 s Tryz.underlying9 Tryz.underlying63 Tryz.underlying5
  have hcell := hide (fun k (hk : k < s.size) => Lib.bytesWorld_cell w 5 s k hk)
  have hszb := Lib.bytesWorld_size w 5 s
  have Hfb := hide (show Fr (fun _ => False) w (Lib.bytesWorld w 5 s) from fr_bytes w 5 s)
  generalize Lib.bytesWorld w 5 s = w1 at *
  have H0 := hide (show PlRel w w1 s s.size (.slice none 0 0) (.int .i64 (0 : Nat)) w1 from ⟨_, 0, rfl, rfl, rfl, ⟨rfl, .inl ⟨rfl, rfl⟩⟩, Fr.refl _ _⟩)
  have Hszb := hide hszb
  clear hszb
  go_enter Tryz.func8, Tryz.ntmps8
  go_wp2_with fail
  clear hcv
  go_loopg [3, 9] s.size (fun gk v i wr => PlRel w w1 s gk v i wr)
  case atStart => exact H0.out
  case round =>
    clear H0
    obtain ⟨v, k, rfl, hk, rfl, hO, hfr⟩ := hrel
    have Hgk := hide hk
    by_cases hlt : k < s.size
    · have hc := hcell.out k hlt
      have hkl : k < s.data.toList.length := by rw [ba_len]; exact hlt
      rw [List.getD_eq_getElem?_getD, List.getElem?_eq_getElem hkl, Option.getD_some] at hc
      have hc' := (World.cell?_of_block (w := w1) (a := ⟨w.heap.size, k, none⟩) (hfr.block w.heap.size (by have := Hszb.out; omega) (fun e => e))).trans hc
      have hnext : ∀ (v' : Value) (w2 : World), w2.ownsRow w1.heap.size 35 2 v' (k + 1) (chCells (plainL (s.data.toList.take k)) ++ [.int .u8 s.data.toList[k].toNat, .bool true]) → Fr (fun q => v.ownBlock = some q) wr w2 → PlRel w w1 s (gk - 1) v' (.int .i64 ((k : Int) + 1)) w2 := fun v' w2 h2 hf2 =>
        ⟨v', k + 1, rfl, by omega, by go_num, by
          rw [List.take_succ_eq_append_getElem hkl]
          unfold plainL at h2 ⊢
          rw [List.map_append, chCells_app]
          exact h2, hfr.trans' hf2 (fun q hq e => by have := (hO.lt q e).1; omega)⟩
      have hnext := hide hnext
      have hszr := hfr.size
      generalize s.data.toList[k] = c at *
      clear hcell hfr hc
      go_wp2_with (at_builtin; refine wpList_append_own _ rfl _ _ 32 rfl w1.heap.size 35 i0 (.agg #[.int .u8 0, .bool false]) 2 2 Tryz.underlying32 hi hz0 hz1 hz2 rfl (by decide) _ _ _ rfl (hO.alloc _) ⟨wr.heap.size, 0, none⟩ 1 1 [.int .u8 c.toNat, .bool true] rfl rfl ?c1 ?c2 ?c3 ?c4 ?c5 ?_)
      case c1 =>
        intro j u hj
        match j, hj with
        | 0, hj => simp at hj; subst hj; simp [Addr.add]
        | 1, hj => simp at hj; subst hj; simp [Addr.add]
      case c2 => intro u hu; simp at hu; rcases hu with rfl | rfl <;> rfl
      case c3 => unfold maxLen; omega
      case c4 => omega
      case c5 => simp; omega
      intro v' w2 hown' hgrow _
      have hn2 := hide (hnext.out v' w2 hown' (((Fr.refl _ _).alloc _).trans (Fr.of_grown hgrow |>.mono fun _ _ e => e.symm ▸ rfl)))
      clear hnext hown' hgrow
      go_wp2_with fail
      go_roundg (gk - 1)
      case measure => omega
      case rel => exact hn2.out
    · have hk' : k = s.size := by omega
      subst hk'
      rw [List.take_of_length_le (by rw [ba_len]; exact Nat.le_refl _)] at hO
      have hlen : (plainL s.data.toList).length = s.size := by unfold plainL; rw [List.length_map, ba_len]
      have hfin := hide (show ChPost w (plainL s.data.toList) (.returned v) wr from ⟨v, rfl, by rw [hlen]; exact own_base hO (fun q hq => by have := (hO.lt q hq).1; have := Hfb.out.size; omega), Hfb.out.trans hfr⟩)
      clear hO hfr hcell Hfb
      go_wp2_with fail
      go_returns
      exact hfin.out
def ofC (s : ByteArray) (k : Nat) : List Value := chCells ((s.data.toList.take k).map un)
def OfRel (w : World) (s : ByteArray) (gk : Nat) (v' rv : Value) (wr : World) : Prop := ∃ (v : Value) (r : ByteArray) (k : Nat), v = v' ∧ gk + k = s.size ∧ rv = .string r ∧ r.data.toList = s.data.toList.drop k ∧ wr.ownsRow w.heap.size 35 2 v k (ofC s k) ∧ Fr (fun _ => False) w wr
set_option maxRecDepth 100000 in
set_option maxHeartbeats 1000000 in
/-- Where no backslash stands. -/
theorem of_any (w : World) (s : ByteArray) (hs : s.size ≤ 1000000) (hb : ∀ c ∈ s.data.toList, c ≠ 92) : Calls Tryz.prog 17 #[.string s] w (ChPost w (s.data.toList.map un)) := by
  obtain ⟨i0, hi, hz0, hz1, hz2⟩ := info_parts ch_info
  have H0 := hide (show OfRel w s s.size (.slice none 0 0) (.string s) w from ⟨_, s, 0, rfl, rfl, rfl, by rw [List.drop_zero], ⟨rfl, .inl ⟨rfl, rfl⟩⟩, Fr.refl _ _⟩)
  have Hb := hide hb
  clear hb
  go_enter Tryz.func17, Tryz.ntmps17
  go_wp2_with fail
  go_loopg [3, 4] s.size (fun gk v i wr => OfRel w s gk v i wr)
  case atStart => exact H0.out
  case round =>
    clear H0
    obtain ⟨v, r, k, rfl, hk, rfl, hr, hO, hfr⟩ := hrel
    by_cases hlt : k < s.size
    · have hkl : k < s.data.toList.length := by rw [ba_len]; exact hlt
      have hc92 := Hb.out _ (List.getElem_mem hkl)
      have hr2 : r.data.toList = s.data.toList[k] :: s.data.toList.drop (k + 1) := by rw [hr, List.drop_eq_getElem_cons hkl]
      have hne := ba_nonempty (s := r) (by rw [hr2]; simp)
      have hrs : r.size = s.size - k := by rw [← ba_len, hr, List.length_drop, ba_len]
      have hr0 : 0 < r.size := by omega
      have hx : r[0]'hr0 = s.data.toList[k] := by
        have e1 : r.data.toList[0]? = some (r[0]'hr0) := by rw [Array.getElem?_toList]; exact Array.getElem?_eq_getElem hr0
        rw [hr2] at e1
        exact (Option.some.inj e1).symm
      have hnext : ∀ (v' : Value) (w2 : World), w2.ownsRow w.heap.size 35 2 v' (k + 1) (ofC s k ++ [.int .u8 s.data.toList[k].toNat, .bool false]) → Fr (fun q => v.ownBlock = some q) wr w2 → OfRel w s (gk - 1) v' (.string (r.extract 1 (s.size - k))) w2 := fun v' w2 h2 hf2 =>
        ⟨v', _, k + 1, rfl, by omega, rfl, by
          rw [ba_extract, hr2, List.drop_succ_cons, List.drop_zero, List.take_of_length_le (by rw [List.length_drop, ba_len]; omega)], by
          unfold ofC at h2 ⊢
          rw [List.take_succ_eq_append_getElem hkl, List.map_append, chCells_app]
          exact h2, hfr.trans' hf2 (fun q hq e => by have := (hO.lt q e).1; omega)⟩
      have hnext := hide hnext
      have hszr := hfr.size
      generalize s.data.toList[k] = c at *
      have hc : ¬ (c.toNat : Int) = 92 := fun e => hc92 (UInt8.toNat_inj.1 (by rw [show (92 : UInt8).toNat = 92 from rfl]; omega))
      clear hfr hr hr2 hc92
      go_wp2_with (at_builtin; refine wpList_append_own _ rfl _ _ 32 rfl w.heap.size 35 i0 (.agg #[.int .u8 0, .bool false]) 2 2 Tryz.underlying32 hi hz0 hz1 hz2 rfl (by decide) _ _ _ rfl (hO.alloc _) ⟨wr.heap.size, 0, none⟩ 1 1 [.int .u8 c.toNat, .bool false] rfl rfl ?c1 ?c2 ?c3 ?c4 ?c5 ?_)
      case c1 =>
        intro j u hj
        match j, hj with
        | 0, hj => simp at hj; subst hj; simp [Addr.add]
        | 1, hj => simp at hj; subst hj; simp [Addr.add, hc]
      case c2 => intro u hu; simp at hu; rcases hu with rfl | rfl <;> rfl
      case c3 => unfold maxLen; omega
      case c4 => omega
      case c5 => simp; omega
      intro v' w2 hown' hgrow _
      have hn2 := hide (hnext.out v' w2 hown' (((Fr.refl _ _).alloc _).trans (Fr.of_grown hgrow |>.mono fun _ _ e => e.symm ▸ rfl)))
      clear hnext hown' hgrow
      go_wp2_with fail
      go_roundg (gk - 1)
      case measure => omega
      case rel => exact hn2.out
    · have hk' : k = s.size := by omega
      subst hk'
      unfold ofC at hO
      rw [List.take_of_length_le (by rw [ba_len]; exact Nat.le_refl _)] at hO
      have hlen : (s.data.toList.map un).length = s.size := by rw [List.length_map, ba_len]
      have hfin := hide (show ChPost w (s.data.toList.map un) (.returned v) wr from ⟨v, rfl, by rw [hlen]; exact hO, hfr⟩)
      have hne := ba_empty (s := r) (by rw [hr]; exact List.drop_eq_nil_of_le (by rw [ba_len]; exact Nat.le_refl _))
      clear hO hfr hr
      go_wp2_with fail
      go_returns
      exact hfin.out
end Go.Proofs.YtlhmmiolnbgloaaGreatDoor

/- shyardlaw09.awake. Conditions: the contract's own premises. -/
namespace Go.Proofs.YtlhmmiolnbgloaaGreatDoor
open Go.RowKit

attribute [local go_sem] Oper.semAt_some

set_option maxRecDepth 100000 in
set_option maxHeartbeats 1000000 in
theorem gawake_any (W : World) (hml : Ml W) : Calls Tryz.prog 5 #[] W fun e w' => e = .returned (.bool true) ∧ Fr (fun _ => False) W w' := by
  have Hml := hide hml
  have hmlt : ¬ W.heap.size ≤ Tryz.laysSplit_ren.g 1 := by
    obtain ⟨m, hm⟩ := hml
    have : Tryz.laysSplit_ren.g 1 < W.heap.size := World.block_lt_of_cell? _ _ hm
    omega
  have Hlt := hide hmlt
  clear hml hmlt
  go_enter Tryz.func5, Tryz.ntmps5
  go_wp2_with fail
  refine (New_any W).mono ?_
  rintro e w1 ⟨f, p1, rfl, hA1, hf1⟩
  have hmk := hide (Mkdir_any w1 f newT _ p1 hA1 (Hml.out.below hf1) (LaidS.new.good.b (by decide)) 1 (by decide) ⟨#[100]⟩ (by decide) 493 (by decide))
  have Hf1 := hide hf1
  clear hA1 hf1
  go_wp2_with fail
  refine hmk.out.mono ?_
  rintro e w2 ⟨rfl, ⟨p2, hA2⟩, hf2⟩
  have Hf2 := hide (show Fr (fun k => W.heap.size ≤ k) W w2 from Hf1.out.noG.trans hf2)
  have hld : LaidS awA 2 := LaidS.new.make 1 [100] true 493 hA2.live
  have hcr := hide (Create_any w2 f awA _ p2 hA2 (Hml.out.frame Hf2.out Hlt.out) (hld.good.b (by decide)) 1 (by decide) ⟨#[100, 47, 102]⟩ (by decide) 420 (by decide))
  have Hld := hide hld
  clear hA2 hf2 hmk hld
  go_wp2_with fail
  refine hcr.out.mono ?_
  rintro e w3 ⟨rfl, ⟨p3, hA3⟩, hf3⟩
  have hA3 : FilesAt w3 f awT _ p3 := hA3
  have Hf3 := hide (Hf2.out.trans hf3)
  have hld3 : LaidS awT 3 := Hld.out.make 1 [100, 47, 102] false 420 hA3.live
  have hof := hide (of_any w3 ⟨#[42, 47, 102, 42]⟩ (by decide) (by decide))
  have HA3 := hide hA3
  have Hld3 := hide hld3
  clear hA3 hf3 hld3 hcr
  go_wp2_with fail
  refine hof.out.mono ?_
  rintro e w4 ⟨v, rfl, h1, h2⟩
  have hch : ChV w4 (fun k => w3.heap.size ≤ k) v awP := own_ch h1
  have hgp := (gpaths_any w4 f awT _ p3 _ 1 v awP (HA3.out.frame h2 (fun _ _ _ e => e)) ((Hml.out.frame Hf3.out Hlt.out).below h2) (Hld3.out.good.b (by decide)) (by decide) hch (by decide) aw_tries)
  rw [show ((1 : Nat) : Int) = 1 from rfl, aw_glob] at hgp
  have hgp := hide hgp
  have Hf4 := hide (Hf3.out.trans h2.noG)
  clear h1 h2 hch hof
  go_wp2_with fail
  refine hgp.out.mono ?_
  rintro e w5 ⟨v2, rfl, h1, h2⟩
  have Hf5 := hide (Hf4.out.trans h2.noG)
  obtain ⟨a2, c2, rfl⟩ := h1.form
  obtain ⟨-, h4, h3⟩ := h1.at
  obtain ⟨g, o, rfl, h5⟩ := h3.resolve_left (by decide)
  have d0 : w5.cell? ⟨g, o, none⟩ = some (.string ⟨#[100, 47, 102]⟩) := h5 0 (by decide)
  have hof := hide (of_any w5 ⟨#[100]⟩ (by decide) (by decide))
  rw [show ([[100, 47, 102]].map fun x : List UInt8 => (⟨x.toArray⟩ : ByteArray)).length = 1 from rfl]
  clear h1 h2 h3 h4 h5 hgp
  go_wp2_with fail
  refine hof.out.mono ?_
  rintro e w6 ⟨v3, rfl, h1, h2⟩
  have hch : ChV w6 (fun k => w5.heap.size ≤ k) v3 [un 100] := own_ch h1
  have hwd := (gwild_any w6 _ v3 _ hch)
  rw [aw_wild] at hwd
  have Hwd := hide hwd
  have Hf6 := hide (Hf5.out.trans h2.noG)
  clear h1 h2 hch hwd hof
  go_wp2_with fail
  refine Hwd.out.mono ?_
  rintro e w7 ⟨rfl, h1⟩
  have hfin := hide (show Fr (fun _ => False) W w7 from (Hf6.out.trans h1.noG).mono fun i hi e => by omega)
  clear h1 Hwd
  go_wp2_with fail
  go_ret
  exact ⟨rfl, hfin.out⟩
end Go.Proofs.YtlhmmiolnbgloaaGreatDoor

/- The document's Texts: are two rows of strings the same? Conditions: the contract's own premises. -/
namespace Go.Proofs.YtlhmmiolnbgloaaGreatDoor
open Go.RowKit

attribute [local go_sem] Oper.semAt_some

def TextsPost (w : World) (b : Bool) (e : Ending) (w' : World) : Prop := e = .returned (.bool b) ∧ Fr (fun _ => False) w w'
def TextsRel (w : World) (l1 l2 : List ByteArray) (i : Value) (wr : World) : Prop := ∃ k : Nat, k ≤ l1.length ∧ i = .int .i64 k ∧ l1.take k = l2.take k ∧ Fr (fun _ => False) w wr
theorem take_eq_get {l1 l2 : List ByteArray} {k n : Nat} (h : l1.take k = l2.take k) (hn : n < k) (h1 : n < l1.length) (h2 : n < l2.length) : l1[n] = l2[n] := by
  have := congrArg (fun l => l[n]?) h
  simp only [List.getElem?_take, if_pos hn, List.getElem?_eq_getElem h1, List.getElem?_eq_getElem h2] at this
  exact Option.some.inj this
set_option maxRecDepth 100000 in
set_option maxHeartbeats 2000000 in
theorem texts_any (w : World) (S1 S2 : Nat → Prop) (v1 v2 : Value) (l1 l2 : List ByteArray) (h1 : ArgsV w S1 v1 l1) (h2 : ArgsV w S2 v2 l2) (hl1 : l1.length ≤ 9223372036854775807) (hl2 : l2.length ≤ 9223372036854775807) :
    Calls Tryz.prog 9 #[v1, v2] w (TextsPost w (decide (l1 = l2))) := by
  obtain ⟨a1, c1, rfl⟩ := h1.form
  obtain ⟨a2, c2, rfl⟩ := h2.form
  by_cases hne : l1.length = l2.length
  rotate_left
  · rw [show decide (l1 = l2) = false by simp; intro e; exact hne (by rw [e])]
    go_enter Tryz.func9, Tryz.ntmps9
    go_wp2_with fail
    go_ret
    exact ⟨rfl, Fr.refl _ _⟩
  have A1 := hide h1.at
  have A2 := hide h2.at
  clear h1 h2
  go_enter Tryz.func9, Tryz.ntmps9
  go_upto_region 4 with fail
  go_loopw [5] (fun i wr => TextsRel w l1 l2 i wr) (fun i _ => l1.length - (intOf i).toNat)
  case atStart => exact ⟨0, by omega, rfl, rfl, Fr.refl _ _⟩
  case round =>
    obtain ⟨k, hk, rfl, htk, hfr⟩ := hrel
    by_cases hkl : k < l1.length
    · obtain ⟨_, hcap1, B1⟩ := A1.out
      obtain ⟨_, hcap2, B2⟩ := A2.out
      rcases B1 with B1 | ⟨g1, o1, rfl, C1⟩
      · omega
      rcases B2 with B2 | ⟨g2, o2, rfl, C2⟩
      · omega
      have e1 := C1 k hkl
      have e2 := C2 k (by omega)
      have d1 := (World.cell?_of_block (w := w) (a := ⟨g1, o1 + k, none⟩) (hfr.block g1 (World.block_lt_of_cell? _ _ e1) (fun h => h))).trans e1
      have d2 := (World.cell?_of_block (w := w) (a := ⟨g2, o2 + k, none⟩) (hfr.block g2 (World.block_lt_of_cell? _ _ e2) (fun h => h))).trans e2
      clear e1 e2 C1 C2
      by_cases hs : l1[k] = l2[k]'(by omega)
      · have hrel' : TextsRel w l1 l2 (.int .i64 ((k : Int) + 1)) wr.drew := ⟨k + 1, by omega, by go_num, by rw [List.take_succ_eq_append_getElem hkl, List.take_succ_eq_append_getElem (show k < l2.length by omega), htk, hs], hfr.drew⟩
        have hrel' := hide hrel'
        rw [hs] at d1
        clear hs htk
        go_wp2_with fail
        refine region_still (by kernel_rfl) (by kernel_rfl) ?_
        repeat go_big_quiet_step (fail)
        refine wpQuiet_nil ?_
        go_wp2
        all_goals exact ⟨hrel'.out, by simp [intOf]; omega⟩
      · have hfin : TextsPost w (decide (l1 = l2)) (.returned (.bool false)) wr.drew := ⟨by rw [show decide (l1 = l2) = false by simp only [decide_eq_false_iff_not]; rintro rfl; exact hs rfl], hfr.drew⟩
        have hfin := hide hfin
        have hnn := ba_bne hs
        go_wp2_with fail
        refine region_still (by kernel_rfl) (by kernel_rfl) ?_
        repeat go_big_quiet_step (fail)
        refine wpQuiet_nil ?_
        go_wp2
        go_ret
        exact hfin.out
    · have hk' : k = l1.length := by omega
      subst hk'
      rw [List.take_length, hne, List.take_length] at htk
      have hfin : TextsPost w (decide (l1 = l2)) (.returned (.bool true)) wr := ⟨by simp [htk], hfr⟩
      have hfin := hide hfin
      clear htk
      go_wp2
      go_ret
      exact hfin.out
end Go.Proofs.YtlhmmiolnbgloaaGreatDoor
