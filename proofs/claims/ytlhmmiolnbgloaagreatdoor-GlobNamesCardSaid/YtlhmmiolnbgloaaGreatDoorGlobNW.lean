/- GlobNames: the walk. Conditions: the law's own premises. -/
import Derived.Test.YtlhmmiolnbgloaaGreatDoorGlobTx
import Derived.Test.YtlhmmiolnbgloaaGreatDoorGlobTx
namespace Go.Proofs.YtlhmmiolnbgloaaGreatDoor
open Go.RowKit

attribute [local go_sem] Oper.semAt_some

theorem LayRowN.still {W w' : World} {a : Option Addr} {n : Nat} (h : LayRowN W a n) (hf : Fr (fun _ => False) W w') : LayRowN w' a n := by
  obtain ⟨l, h1, h2, h3, h4⟩ := h
  refine ⟨l, h1, h2, h3, h4.imp id ?_⟩
  rintro ⟨g, o, h5, h6, h7⟩
  have tr : ∀ i v, W.cell? ⟨g, i, none⟩ = some v → w'.cell? ⟨g, i, none⟩ = some v := fun i v h => (World.cell?_of_block (a := ⟨g, i, none⟩) (hf.block g h6 (fun e => e))).trans h
  exact ⟨g, o, h5, Nat.lt_of_lt_of_le h6 hf.size, fun k hk => ⟨tr _ _ (h7 k hk).1, tr _ _ (h7 k hk).2.1, tr _ _ (h7 k hk).2.2⟩⟩
def keepT (t n : List UInt8) : Bool := t.isPrefixOf n && !(n.head? == some 46 && t.isEmpty)
def wantT (t : List UInt8) (l : List ByteArray) : List ByteArray := l.filter fun x => keepT t x.data.toList
theorem want_map (t : List UInt8) (l : List ByteArray) : (((l.map fun x => x.data.toList).filter fun n => t.isPrefixOf n && !(n.head? == some 46 && t.isEmpty)).map fun x => (⟨x.toArray⟩ : ByteArray)) = wantT t l := by
  rw [List.filter_map, List.map_map]
  show List.map (fun x : ByteArray => (⟨x.data.toList.toArray⟩ : ByteArray)) (wantT t l) = _
  have : (fun x : ByteArray => (⟨x.data.toList.toArray⟩ : ByteArray)) = id := funext fun x => ba_back x
  rw [this, List.map_id]
theorem want_step {t : List UInt8} {l : List ByteArray} {k : Nat} (h : k < l.length) : wantT t (l.take (k + 1)) = wantT t (l.take k) ++ if keepT t l[k].data.toList = true then [l[k]] else [] := by
  unfold wantT
  rw [List.take_succ_eq_append_getElem h, List.filter_append]
  congr 1
  rw [List.filter_cons]
  simp
theorem pre_take {t n : List UInt8} (h : t.length ≤ n.length) : t.isPrefixOf n = decide (n.take t.length = t) := by
  rw [Bool.eq_iff_iff, List.isPrefixOf_iff_prefix, decide_eq_true_eq, List.prefix_iff_eq_take]
  exact ⟨fun e => e.symm, fun e => e.symm⟩
theorem pre_long {t n : List UInt8} (h : ¬ t.length ≤ n.length) : t.isPrefixOf n = false := by
  cases e : t.isPrefixOf n with
  | false => rfl
  | true => exact absurd (List.isPrefixOf_iff_prefix.1 e).length_le h
theorem list_names {σ : FSt} {k : Nat} (h : LaidS σ k) : ∀ x ∈ listL σ 1, x.data.toList ≠ [] := by
  obtain ⟨r, h1, h2, _⟩ := h.root
  intro x hx
  have := list_nat h1 h2
  have h3 : x.data.toList ∈ (listL σ (1 : Nat)).map (fun x => x.data.toList) := List.mem_map.2 ⟨x, hx, rfl⟩
  rw [this] at h3
  obtain ⟨q, hq, e⟩ := List.mem_map.1 h3
  rw [← e]
  exact (h.names 1 r h1 q hq).1
/-- Between two names. -/
def GnRel (t : ByteArray) (l : List ByteArray) (w3 : World) (gk : Nat) (v i : Value) (wr : World) : Prop := ∃ (v0 : Value) (k : Nat), v0 = v ∧ gk + k = l.length ∧ i = .int .i64 k ∧ wr.ownsRow w3.heap.size 9 1 v0 (wantT t.data.toList (l.take k)).length (strs (wantT t.data.toList (l.take k))) ∧ Fr (fun _ => False) w3 wr
theorem Tryz.infoStrN : (Tryz.prog.info? 9).map (fun i => (i.zero, i.size, i.bytes)) = some (some (.string ⟨#[]⟩), 1, 16) := by kernel_rfl
set_option maxRecDepth 100000 in
set_option maxHeartbeats 1000000 in
theorem gnames_walk (a : Option Addr) (len cap : Nat) (t : ByteArray) (W : World) (hml : Ml W) (hc : LayRowN W a len) (ht : t.size ≤ 9223372036854775807) : Calls Tryz.prog 3 #[.slice a len cap, .string t] W (LawPost W) := by
  obtain ⟨i0, hinf, hz0, hz1, hz2⟩ := info_parts Tryz.infoStrN
  have Hml := hide hml
  have Hc := hide hc
  have Ht := hide ht
  clear hml hc ht
  go_enter Tryz.func3, Tryz.ntmps3
  go_wp2_with fail
  refine (gawake_any W Hml.out).mono ?_
  rintro e w1 ⟨rfl, hf1⟩
  have Hf1 := hide hf1
  clear hf1
  by_cases h40 : t.size ≤ 40
  rotate_left
  · have h41 : (40 : Int) < (t.size : Int) := by omega
    have hfin := hide (show LawPost W (.returned (.bool true)) w1 from ⟨rfl, Hf1.out.below (fun _ _ e => e)⟩)
    clear Hf1
    go_wp2_with fail
    go_ret
    exact hfin.out
  · have h41 : ¬ (40 : Int) < (t.size : Int) := by omega
    go_upto_block 0 with fail
    go_cut [5] from 19 to 28 (fun _ wx => wx = w1 ∧ NoSl t.data.toList)
    case first =>
      go_wp2_with fail
      go_loopg [5] t.size (fun gk i wr => ∃ k, gk + k = t.size ∧ i = .int .i64 k ∧ wr = w1 ∧ NoSl (t.data.toList.take k))
      case atStart => exact ⟨0, by omega, rfl, rfl, fun c hc => by simp at hc⟩
      case round =>
        obtain ⟨k, hgk, rfl, rfl, hno⟩ := hrel
        by_cases hlt : k < t.size
        · have hkl : k < t.data.toList.length := by rw [ba_len]; exact hlt
          have htk : t.data.toList.take (k + 1) = t.data.toList.take k ++ [t[k]] := by rw [List.take_succ_eq_append_getElem hkl]; rfl
          have hi0 : (0 : Int) ≤ (k : Int) := by omega
          have hi1 : (k : Int) < (t.size : Int) := by omega
          by_cases e : t[k] = slashB
          · have hfin := hide (show LawPost W (.returned (.bool true)) wr from ⟨rfl, Hf1.out.below (fun _ _ e => e)⟩)
            have e2 : ((t[k].toNat : Int) == 47) = true := by rw [e]; rfl
            clear Hf1 hno hgk htk e
            go_wp2_with fail
            go_ret
            exact hfin.out
          · have e2 : ((t[k].toNat : Int) == 47) = false := by
              rw [beq_eq_false_iff_ne]
              intro h
              exact e (UInt8.toNat_inj.1 (by show t[k].toNat = 47; omega))
            have hn := hide (show NoSl (t.data.toList.take (k + 1)) from fun c hc => by
              rw [htk, List.mem_append] at hc
              rcases hc with hc | hc
              · exact hno c hc
              · rw [List.mem_singleton.1 hc]; exact e)
            have hm := hide (show gk - 1 < gk by omega)
            have hgk2 := hide (show gk - 1 + (k + 1) = t.size by omega)
            clear hno hgk htk e
            go_wp2_with fail
            go_roundg (gk - 1)
            case measure => exact hm.out
            case rel => exact ⟨k + 1, hgk2.out, by go_num, rfl, hn.out⟩
        · have hi1 : ¬ (k : Int) < (t.size : Int) := by omega
          have hn := hide (show NoSl t.data.toList by rw [List.take_of_length_le (by rw [ba_len]; omega)] at hno; exact hno)
          clear hno hgk
          go_wp2_with fail
          go_meet
          case rel => exact ⟨rfl, hn.out⟩
    case rest =>
      obtain ⟨e9, hno⟩ := hcut
      subst e9
      have Hno := hide hno
      clear hno
      go_wp2_with fail
      refine (laid_any _ a len cap (Hml.out.below Hf1.out) (Hc.out.still Hf1.out)).mono ?_
      rintro e w2 ⟨f, g, σ, S, p, rfl, hA, hL, hS, hf2⟩
      have Hf2 := hide (Hf1.out.trans hf2)
      have hli := List_any w2 f σ S p hA (hL.good.b (by decide)) 1 (by decide)
      unfold ListPost at hli
      rw [list_root hL] at hli
      have Hli := hide hli
      have HA := hide hA
      have HL := hide hL
      clear hA hL hS hf2 hli
      go_wp2_with fail
      refine Hli.out.mono ?_
      rintro e w3 ⟨lv, rfl, hlv, hf3⟩
      have hnm := list_names HL.out
      have hll := list_len HL.out.good.caps 1
      have hgl := glob_names HL.out (by decide) Hno.out
      obtain ⟨l, hl⟩ : ∃ l, l = listL σ 1 := ⟨_, rfl⟩
      rw [← hl] at hlv hnm hll hgl
      obtain ⟨la, lc, rfl⟩ := hlv.form
      have H0 := hide (show GnRel t l w3 l.length (.slice none 0 0) (.int .i64 (0 : Nat)) w3 from ⟨_, 0, rfl, rfl, rfl, ⟨rfl, .inl ⟨rfl, rfl⟩⟩, Fr.refl _ _⟩)
      have Hlv := hide hlv
      have Hnm := hide hnm
      have Hll := hide hll
      have Hgl := hide hgl
      have Hf3 := hide (Hf2.out.trans hf3)
      have HA3 := hide (HA.out.frame hf3 (fun _ _ _ e => e))
      have Hl := hide hl
      clear hlv hnm hll hgl hf3 HA hl
      go_wp2_with fail
      go_loopg [10, 43] l.length (fun gk v i wr => GnRel t l w3 gk v i wr)
      case atStart => exact H0.out
      case round =>
        clear H0
        obtain ⟨v, k, rfl, hgk, rfl, hO, hfr⟩ := hrel
        have Hgk := hide hgk
        clear hgk
        by_cases hlt : k < l.length
        · obtain ⟨-, hcn, hrr⟩ := Hlv.out.at
          obtain ⟨g2, o2, rfl, hcell⟩ := hrr.resolve_left (by omega)
          have hck := hcell k hlt
          have hck' := (World.cell?_of_block (w := w3) (a := ⟨g2, o2 + k, none⟩) (hfr.block g2 (World.block_lt_of_cell? _ _ hck) (fun e => e))).trans hck
          have hne := Hnm.out l[k] (List.getElem_mem hlt)
          have hws := want_step (t := t.data.toList) hlt
          have hwl : (wantT t.data.toList (l.take k)).length ≤ 41 := by
            have h1 : (wantT t.data.toList (l.take k)).length ≤ (l.take k).length := List.length_filter_le _ _
            have h2 := Hll.out
            rw [List.length_take] at h1
            omega
          have Hwl := hide hwl
          generalize hx : l[k] = x at *
          have hxs : 0 < x.size := by rw [← ba_len]; exact List.length_pos_iff.2 hne
          have hli0 : (0 : Int) ≤ (k : Int) := by omega
          have hli1 : (k : Int) < (l.length : Int) := by omega
          have hkb : (k : Int) < 41 := by have := Hll.out; omega
          have hskip : keepT t.data.toList x.data.toList = false → GnRel t l w3 (gk - 1) v (.int .i64 ((k : Int) + 1)) wr := fun e => by
            rw [e, if_neg (by decide), List.append_nil] at hws
            exact ⟨v, k + 1, rfl, by have := Hgk.out; omega, by go_num, by rw [hws]; exact hO, hfr⟩
          have hadd : keepT t.data.toList x.data.toList = true → ∀ v' w4, w4.ownsRow w3.heap.size 9 1 v' ((wantT t.data.toList (l.take k)).length + 1) (strs (wantT t.data.toList (l.take k)) ++ [.string x]) → Fr (fun q => v.ownBlock = some q) wr w4 → GnRel t l w3 (gk - 1) v' (.int .i64 ((k : Int) + 1)) w4 := fun e v' w4 h1 h2 => by
            rw [e, if_pos rfl] at hws
            refine ⟨v', k + 1, rfl, by have := Hgk.out; omega, by go_num, ?_, hfr.trans' h2 fun i hi e => by have := (hO.lt i e).1; omega⟩
            rw [hws]
            simp only [strs, List.map_append, List.map_cons, List.map_nil, List.length_append, List.length_cons, List.length_nil, Nat.zero_add] at h1 ⊢
            exact h1
          have Hskip := hide hskip
          have Hadd := hide hadd
          have Hm := hide (show gk - 1 < gk by have := Hgk.out; omega)
          have HO := hide hO
          have Hsz := hide hfr.size
          have hxh : x.data.toList.head? = some x[0] := by
            have h9 : 0 < x.data.toList.length := by rw [ba_len]; exact hxs
            rw [List.head?_eq_getElem?, List.getElem?_eq_getElem h9]
            rfl
          clear hskip hadd hws hO hfr hck hcell hne hx hwl hcn hrr
          by_cases hle : t.size ≤ x.size
          rotate_left
          · have hge : ¬ (t.size : Int) ≤ (x.size : Int) := by omega
            have hn := hide (Hskip.out (by unfold keepT; rw [pre_long (by rw [ba_len, ba_len]; exact hle)]; rfl))
            clear Hskip Hadd HO hxh hle
            go_wp2_with fail
            go_roundg (gk - 1)
            case measure => exact Hm.out
            case rel => exact hn.out
          · have hge : (t.size : Int) ≤ (x.size : Int) := by omega
            have hpt := pre_take (t := t.data.toList) (n := x.data.toList) (by rw [ba_len, ba_len]; exact hle)
            have hxe : (x.extract 0 t.size).data.toList = x.data.toList.take t.data.toList.length := by rw [ba_extract, ba_len]; simp
            have ht0 : (0 : Int) ≤ (t.size : Int) := by omega
            by_cases hpe : x.extract 0 t.size = t
            rotate_left
            · have hbn := ba_bne hpe
              have hn := hide (Hskip.out (by
                unfold keepT
                rw [hpt, decide_eq_false (fun e => hpe (ba_of_data (hxe.trans e)))]
                rfl))
              clear Hskip Hadd HO hxh hle hpt hxe hpe
              go_wp2_with fail
              go_roundg (gk - 1)
              case measure => exact Hm.out
              case rel => exact hn.out
            · have hpt2 : t.data.toList.isPrefixOf x.data.toList = true := by rw [hpt, decide_eq_true (by rw [← hxe, hpe])]
              by_cases h46 : x[0] = 46
              · have e46 : ((x[0].toNat : Int) == 46) = true := by rw [h46]; rfl
                by_cases hte : t = ⟨#[]⟩
                · have hn := hide (Hskip.out (by unfold keepT; rw [hpt2, hxh, h46, hte]; rfl))
                  clear Hskip Hadd HO hxh hle hpt hxe hpt2
                  go_wp2_with fail
                  go_roundg (gk - 1)
                  case measure => exact Hm.out
                  case rel => exact hn.out
                · have hbn := ba_bne hte
                  have hemp : t.data.toList.isEmpty = false := by
                    cases e : t.data.toList with
                    | nil => exact absurd (ba_of_data e) hte
                    | cons c r => rfl
                  have hemp2 : t.toList.isEmpty = false := by rw [ByteArray.toList_eq]; exact hemp
                  have hadd := hide (Hadd.out (by unfold keepT; rw [hpt2, hemp]; simp))
                  have hwl := Hwl.out
                  have hsz := Hsz.out
                  have hO := HO.out
                  clear Hskip Hadd HO hxh hle hpt hxe hpt2
                  go_wp2_with (at_builtin; refine wpList_append_own _ rfl _ _ 28 rfl w3.heap.size 9 i0 (.string ⟨#[]⟩) 1 16 Tryz.underlying28 hinf hz0 hz1 hz2 rfl (by decide) _ _ _ rfl (hO.alloc _) ⟨wr.heap.size, 0, none⟩ 1 1 [.string x] rfl rfl ?c1 ?c2 ?c3 ?c4 ?c5 ?_)
                  case c1 => exact cell_one_new _ _ _
                  case c2 => intro u hu; simp at hu; subst hu; rfl
                  case c3 => unfold maxLen; omega
                  case c4 => omega
                  case c5 => simp; omega
                  intro v' w4 hown' hgrow _
                  have hn := hide (hadd.out v' w4 hown' (((Fr.refl _ _).alloc _).trans (Fr.of_grown hgrow |>.mono fun _ _ e => e.symm ▸ rfl)))
                  clear hadd hown' hgrow hO hsz
                  go_wp2_with fail
                  go_roundg (gk - 1)
                  case measure => exact Hm.out
                  case rel => exact hn.out
              · have e46 : ((x[0].toNat : Int) == 46) = false := by
                  rw [beq_eq_false_iff_ne]
                  intro h
                  exact h46 (UInt8.toNat_inj.1 (by show x[0].toNat = 46; omega))
                have i46 : ¬ (x[0].toNat : Int) = 46 := fun h => h46 (UInt8.toNat_inj.1 (by show x[0].toNat = 46; omega))
                have hadd := hide (Hadd.out (by unfold keepT; rw [hpt2, hxh]; simp [h46]))
                have hwl := Hwl.out
                have hsz := Hsz.out
                have hO := HO.out
                clear Hskip Hadd HO hxh hle hpt hxe hpt2
                go_wp2_with (at_builtin; refine wpList_append_own _ rfl _ _ 28 rfl w3.heap.size 9 i0 (.string ⟨#[]⟩) 1 16 Tryz.underlying28 hinf hz0 hz1 hz2 rfl (by decide) _ _ _ rfl (hO.alloc _) ⟨wr.heap.size, 0, none⟩ 1 1 [.string x] rfl rfl ?c1 ?c2 ?c3 ?c4 ?c5 ?_)
                case c1 => exact cell_one_new _ _ _
                case c2 => intro u hu; simp at hu; subst hu; rfl
                case c3 => unfold maxLen; omega
                case c4 => omega
                case c5 => simp; omega
                intro v' w4 hown' hgrow _
                have hn := hide (hadd.out v' w4 hown' (((Fr.refl _ _).alloc _).trans (Fr.of_grown hgrow |>.mono fun _ _ e => e.symm ▸ rfl)))
                clear hadd hown' hgrow hO hsz
                go_wp2_with fail
                go_roundg (gk - 1)
                case measure => exact Hm.out
                case rel => exact hn.out
        · have hkl : k = l.length := by have := Hgk.out; omega
          subst hkl
          rw [List.take_length] at hO
          have hli1 : ¬ (l.length : Int) < (l.length : Int) := by omega
          have hpl := hide (plain_any wr t (by omega))
          have HO := hide hO
          have Hfr := hide hfr
          have Hsz := hide hfr.size
          have htz : t.size ≤ 40 := h40
          clear hO hfr hlt
          obtain ⟨i1, hinf1, hy0, hy1, hy2⟩ := info_parts ch_info
          go_wp2_with fail
          refine hpl.out.mono ?_
          rintro e w4 ⟨pv0, rfl, hp1, hp2⟩
          have hln : (plainL t.data.toList).length ≤ 40 := by rw [plain_len, ba_len]; exact h40
          have hsz4 := hp2.size
          go_wp2_with (at_builtin; refine wpList_append_own _ rfl _ _ 32 rfl wr.heap.size 35 i1 (.agg #[.int .u8 0, .bool false]) 2 2 Tryz.underlying32 hinf1 hy0 hy1 hy2 rfl (by decide) _ _ _ rfl (hp1.alloc _) ⟨w4.heap.size, 0, none⟩ 1 1 [.int .u8 42, .bool false] rfl rfl ?c1 ?c2 ?c3 ?c4 ?c5 ?_)
          case c1 =>
            intro j u hj
            match j, hj with
            | 0, hj => simp at hj; subst hj; simp [Addr.add]
            | 1, hj => simp at hj; subst hj; simp [Addr.add]
          case c2 => intro u hu; simp at hu; rcases hu with rfl | rfl <;> rfl
          case c3 => unfold maxLen; omega
          case c4 => omega
          case c5 => simp; omega
          intro v' w5 hown' hgrow _
          have hf45 : Fr (fun q => pv0.ownBlock = some q) w4 w5 := ((Fr.refl _ _).alloc _).trans (Fr.of_grown hgrow |>.mono fun _ _ e => e.symm ▸ rfl)
          have hfr5 : Fr (fun _ => False) wr w5 := hp2.trans' hf45 (fun i hi e => by have := (hp1.lt i e).1; omega)
          have hch : ChV w5 (fun k => wr.heap.size ≤ k) v' (plainL t.data.toList ++ [un starB]) := by
            have h1 : w5.ownsRow wr.heap.size 35 2 v' (plainL t.data.toList ++ [un starB]).length (chCells (plainL t.data.toList ++ [un starB])) := by
              rw [List.length_append, List.length_singleton, chCells_app]
              exact hown'
            exact own_ch h1
          have hgp := gpaths_any w5 f σ S p _ 1 v' (plainL t.data.toList ++ [un starB]) (HA3.out.frame (Hfr.out.trans hfr5) (fun _ _ _ e => e)) (Hml.out.below ((Hf3.out.trans Hfr.out).trans hfr5)) (HL.out.good.b (by decide)) (by decide) hch (by rw [List.length_append, List.length_singleton]; omega) (Nat.le_trans Hgl.out.2 (by decide))
          rw [show ((1 : Nat) : Int) = 1 from rfl, Hgl.out.1] at hgp
          unfold PathsPost at hgp
          rw [want_map] at hgp
          have Hgp := hide hgp
          have HO5 := hide (own_frame HO.out hfr5 (fun _ _ e => e))
          have Hf5 := hide ((Hf3.out.trans Hfr.out).trans hfr5)
          clear hch hgp hfr5 hf45 hown' hgrow hp1 hp2 hpl
          go_wp2_with fail
          refine Hgp.out.mono ?_
          rintro e w6 ⟨v6, rfl, h1, h2⟩
          have hwl : (wantT t.data.toList l).length ≤ 41 := by
            have h3 : (wantT t.data.toList l).length ≤ l.length := List.length_filter_le _ _
            have h4 := Hll.out
            omega
          have htx := texts_any w6 _ (fun _ => True) v6 v _ _ h1 (own_args (own_frame HO5.out h2 (fun _ _ e => e)) rfl (fun _ _ => trivial)) (by omega) (by omega)
          rw [decide_eq_true rfl] at htx
          have Htx := hide htx
          have Hf6 := hide (Hf5.out.trans h2)
          clear h1 h2 htx Hgp HO5
          go_wp2_with fail
          refine Htx.out.mono ?_
          rintro e w7 ⟨rfl, h1⟩
          have hfin := hide (show LawPost W (.returned (.bool true)) w7 from ⟨rfl, (Hf6.out.trans h1).below (fun _ _ e => e)⟩)
          clear h1 Htx
          go_wp2_with fail
          go_ret
          exact hfin.out
end Go.Proofs.YtlhmmiolnbgloaaGreatDoor
