/- GlobBelow: the walk. Conditions: the law's own premises. -/
import Derived.Test.YtlhmmiolnbgloaaGreatDoorGlobTx
import Derived.Test.YtlhmmiolnbgloaaGreatDoorGlobTx
import Derived.Test.YtlhmmiolnbgloaaGreatDoorGlobCall
namespace Go.Proofs.YtlhmmiolnbgloaaGreatDoor
open Go.RowKit

attribute [local go_sem] Oper.semAt_some

theorem LayRowN.stillB {W w' : World} {a : Option Addr} {n : Nat} (h : LayRowN W a n) (hf : Fr (fun _ => False) W w') : LayRowN w' a n := by
  obtain ⟨l, h1, h2, h3, h4⟩ := h
  refine ⟨l, h1, h2, h3, h4.imp id ?_⟩
  rintro ⟨g, o, h5, h6, h7⟩
  have tr : ∀ i v, W.cell? ⟨g, i, none⟩ = some v → w'.cell? ⟨g, i, none⟩ = some v := fun i v h => (World.cell?_of_block (a := ⟨g, i, none⟩) (hf.block g h6 (fun e => e))).trans h
  exact ⟨g, o, h5, Nat.lt_of_lt_of_le h6 hf.size, fun k hk => ⟨tr _ _ (h7 k hk).1, tr _ _ (h7 k hk).2.1, tr _ _ (h7 k hk).2.2⟩⟩
theorem walk_some {σ : FSt} {k : Nat} (h : LaidS σ k) {d : List UInt8} (hd0 : d ≠ []) (hl : d.length ≤ 20) (hds : NoSl d) (hw : (walkE σ 1 d).1 = 0) : (σ.nd (walkE σ 1 d).2).isSome = true := by
  obtain ⟨r, h1, h2, h3⟩ := h.root
  have e0 : walkE σ 1 d = stepE r 1 d := by
    have := walk_one h1 h2 hd0 (by omega) hds
    unfold stepS at this
    rw [h1] at this
    exact this
  rw [e0] at hw ⊢
  clear e0
  unfold stepE at hw ⊢
  by_cases e1 : hereE r ≠ 0
  · rw [if_pos e1] at hw; exact absurd hw e1
  rw [if_neg e1] at hw ⊢
  by_cases e2 : d = dot
  · rw [if_pos e2]; show (σ.nd 1).isSome = true; rw [h1]; rfl
  rw [if_neg e2] at hw ⊢
  by_cases e3 : d = dots
  · rw [if_pos e3] at hw ⊢
    by_cases e4 : r.links = 0
    · rw [if_pos e4] at hw; exact absurd hw (by decide)
    · rw [if_neg e4]; exact h.good.live.par 1 r h1 h2 (Nat.pos_of_ne_zero e4)
  rw [if_neg e3] at hw ⊢
  rw [if_neg (by omega)] at hw ⊢
  cases e4 : kget d r.ents with
  | none => rw [e4] at hw; exact absurd hw (by decide)
  | some q => exact h.good.live.ents 1 r h1 (d, q) (kget_mem e4)
theorem paths_small {σ : FSt} {dir : Nat} : ∀ (fuel : Nat) (far : List UInt8) (p : List Ch), ∀ x ∈ pathsP σ dir fuel far p, x.length ≤ 256
  | 0, _, _, x, hx => by cases hx
  | fuel + 1, far, p, x, hx => by
    rw [pathsP] at hx
    by_cases e : p = []
    · rw [if_pos e] at hx
      by_cases e2 : far.length ≤ 256
      · rw [if_pos e2] at hx; rw [List.mem_singleton.1 hx]; exact e2
      · rw [if_neg e2] at hx; cases hx
    · rw [if_neg e] at hx
      obtain ⟨n, _, hn⟩ := List.mem_flatMap.1 hx
      simp only at hn
      split at hn
      · cases hn
      · exact paths_small fuel _ _ x hn
theorem compact_mem : ∀ {l : List (List UInt8)} {x : List UInt8}, x ∈ compactL l → x ∈ l
  | [], _, h => h
  | [_], _, h => h
  | a :: b :: r, x, h => by
    unfold compactL at h
    split at h
    · exact List.mem_cons_of_mem _ (compact_mem h)
    · rcases List.mem_cons.1 h with h | h
      · rw [h]; exact List.mem_cons_self
      · exact List.mem_cons_of_mem _ (compact_mem h)
theorem glob_small {σ : FSt} {dir : Int} {p : List Ch} : (globL σ dir p).length ≤ 200 ∧ ∀ x ∈ globL σ dir p, x.length ≤ 256 := by
  unfold globL
  cases σ.ndI dir with
  | none => exact ⟨Nat.zero_le _, fun x hx => by cases hx⟩
  | some n =>
    simp only
    split
    · exact ⟨Nat.zero_le _, fun x hx => by cases hx⟩
    · refine ⟨by rw [List.length_take]; omega, fun x hx => ?_⟩
      exact paths_small _ _ _ x (List.mem_mergeSort.1 (compact_mem (List.mem_of_mem_take hx)))
theorem chCells_cell {w : World} {g o : Nat} {p : List Ch} (C : ∀ j (h : j < p.length), w.cell? ⟨g, o + j * 2, none⟩ = some (.int .u8 p[j].b.toNat) ∧ w.cell? ⟨g, o + j * 2 + 1, none⟩ = some (.bool p[j].q)) :
    ∀ j u, (chCells p)[j]? = some u → w.cell? ((⟨g, o, none⟩ : Addr).add j) = some u := fun j u hj => by
  have hlt : j < p.length * 2 := by rw [← chCells_len]; exact (List.getElem?_eq_some_iff.1 hj).1
  have hk : j / 2 < p.length := by omega
  obtain ⟨e1, e2⟩ := chCells_at hk
  obtain ⟨c1, c2⟩ := C (j / 2) hk
  rw [show (⟨g, o, none⟩ : Addr).add j = ⟨g, o + j, none⟩ by simp [Addr.add]]
  rcases Nat.mod_two_eq_zero_or_one j with h | h
  · rw [show j / 2 * 2 = j by omega] at e1 c1
    rw [e1] at hj
    cases hj
    exact c1
  · rw [show j / 2 * 2 + 1 = j by omega] at e2
    rw [show o + j / 2 * 2 + 1 = o + j by omega] at c2
    rw [e2] at hj
    cases hj
    exact c2
def NoSlP (p : List Ch) : Prop := ∀ c ∈ p, c.b ≠ slashB
/-- What is wanted of a row of paths, each behind a directory's. -/
def belowB (d : ByteArray) (l : List ByteArray) : List ByteArray := l.map fun x => d ++ ⟨#[47]⟩ ++ x
theorem below_step {d : ByteArray} {l : List ByteArray} {k : Nat} (h : k < l.length) : belowB d (l.take (k + 1)) = belowB d (l.take k) ++ [d ++ ⟨#[47]⟩ ++ l[k]] := by
  unfold belowB
  rw [List.take_succ_eq_append_getElem h, List.map_append]
  rfl
theorem below_map (d : ByteArray) (l : List (List UInt8)) : ((l.map ((d.data.toList ++ [slashB]) ++ ·)).map fun x => (⟨x.toArray⟩ : ByteArray)) = belowB d (l.map fun x => ⟨x.toArray⟩) := by
  unfold belowB
  rw [List.map_map, List.map_map]
  refine List.map_congr_left fun x _ => ba_of_data ?_
  simp [slashB]
/-- Between two paths. -/
def GbRel (d : ByteArray) (l : List ByteArray) (w3 : World) (gk : Nat) (v i : Value) (wr : World) : Prop := ∃ (v0 : Value) (k : Nat), v0 = v ∧ gk + k = l.length ∧ i = .int .i64 k ∧ wr.ownsRow w3.heap.size 9 1 v0 k (strs (belowB d (l.take k))) ∧ Fr (fun _ => False) w3 wr
theorem Tryz.infoStrN2 : (Tryz.prog.info? 9).map (fun i => (i.zero, i.size, i.bytes)) = some (some (.string ⟨#[]⟩), 1, 16) := by kernel_rfl
set_option maxRecDepth 100000 in
set_option maxHeartbeats 1000000 in
theorem gbelow_walk (a : Option Addr) (len cap : Nat) (d : ByteArray) (pa : Option Addr) (pn pc : Nat) (W : World) (hml : Ml W) (hc : LayRowN W a len) (hd : d.size ≤ 9223372036854775807) (hp : ChRowN W pa pn pc) : Calls Tryz.prog 4 #[.slice a len cap, .string d, .slice pa pn pc] W (LawPost W) := by
  obtain ⟨i0, hinf, hz0, hz1, hz2⟩ := info_parts Tryz.infoStrN2
  obtain ⟨p, hp⟩ := hp
  obtain ⟨rfl, hpc1, hpc2, -⟩ := hp.at
  have Hml := hide hml
  have Hc := hide hc
  have Hd := hide hd
  have Hp := hide hp
  clear hml hc hd hp
  go_enter Tryz.func4, Tryz.ntmps4
  go_wp2_with fail
  refine (gawake_any W Hml.out).mono ?_
  rintro e w1 ⟨rfl, hf1⟩
  have Hf1 := hide hf1
  have hfin := hide (show LawPost W (.returned (.bool true)) w1 from ⟨rfl, hf1.below (fun _ _ e => e)⟩)
  clear hf1
  by_cases h1 : p.length ≤ 20
  rotate_left
  · have h1' : (20 : Int) < (p.length : Int) := by omega
    clear Hf1
    go_wp2_with fail
    go_ret
    exact hfin.out
  have h1' : ¬ (20 : Int) < (p.length : Int) := by omega
  by_cases h2 : d.data.toList = []
  · have he := ba_empty h2
    clear Hf1
    go_wp2_with fail
    go_ret
    exact hfin.out
  have he := ba_nonempty h2
  have H2 := hide h2
  clear h2
  by_cases h3 : d.size ≤ 20
  rotate_left
  · have h3' : (20 : Int) < (d.size : Int) := by omega
    clear Hf1
    go_wp2_with fail
    go_ret
    exact hfin.out
  have h3' : ¬ (20 : Int) < (d.size : Int) := by omega
  clear hfin
  go_upto_block 0 with fail
  go_cut [8] from 35 to 42 (fun _ wx => Fr (fun _ => False) W wx ∧ NoSlP p)
  case first =>
    go_wp2_with fail
    go_loopg [35] p.length (fun gk i wr => ∃ k, gk + k = p.length ∧ i = .int .i64 k ∧ Fr (fun _ => False) W wr ∧ NoSlP (p.take k))
    case atStart => exact ⟨0, by omega, rfl, Hf1.out, fun c hc => by simp at hc⟩
    case round =>
      obtain ⟨k, hgk, rfl, hfr, hno⟩ := hrel
      by_cases hlt : k < p.length
      · obtain ⟨_, hcap, hcc, A⟩ := Hp.out.at
        rcases A with A | ⟨g, o, rfl, _, hg, C⟩
        · have : p.length = 0 := by rw [A]; rfl
          omega
        obtain ⟨e1, e2⟩ := C k hlt
        have hbl := hfr.block g hg (fun e => e)
        have d1 : wr.cell? ⟨g, o + k * 2, none⟩ = some (.int .u8 p[k].b.toNat) := (World.cell?_of_block (w := W) (a := ⟨g, o + k * 2, none⟩) hbl).trans e1
        have d2 : wr.cell? ⟨g, o + k * 2 + 1, none⟩ = some (.bool p[k].q) := (World.cell?_of_block (w := W) (a := ⟨g, o + k * 2 + 1, none⟩) hbl).trans e2
        have htk : p.take (k + 1) = p.take k ++ [p[k]] := List.take_succ_eq_append_getElem hlt
        have hli : (k : Int) < (p.length : Int) := by omega
        have hli0 : (0 : Int) ≤ (k : Int) := by omega
        have Hfr := hide fun o => hfr.alloc o
        clear e1 e2 C hbl hfr
        by_cases e : p[k].b = slashB
        · have e2 : ((p[k].b.toNat : Int) == 47) = true := by rw [e]; rfl
          have hfin := hide fun o => (show LawPost W (.returned (.bool true)) (wr.alloc o) from ⟨rfl, (Hfr.out o).below (fun _ _ e => e)⟩)
          clear Hf1 hno hgk htk e Hfr
          go_wp2_with fail
          go_ret
          exact hfin.out _
        · have e2 : ((p[k].b.toNat : Int) == 47) = false := by
            rw [beq_eq_false_iff_ne]
            intro h
            exact e (UInt8.toNat_inj.1 (by show p[k].b.toNat = 47; omega))
          have hn := hide (show NoSlP (p.take (k + 1)) from fun c hc => by
            rw [htk, List.mem_append] at hc
            rcases hc with hc | hc
            · exact hno c hc
            · rw [List.mem_singleton.1 hc]; exact e)
          have hm := hide (show gk - 1 < gk by omega)
          have hgk2 := hide (show gk - 1 + (k + 1) = p.length by omega)
          clear hno hgk htk e
          go_wp2_with fail
          go_roundg (gk - 1)
          case measure => exact hm.out
          case rel => exact ⟨k + 1, hgk2.out, by go_num, Hfr.out _, hn.out⟩
      · have hi1 : ¬ (k : Int) < (p.length : Int) := by omega
        have hn := hide (show NoSlP p by rw [List.take_of_length_le (by omega)] at hno; exact hno)
        have Hfr := hide hfr
        clear hno hgk hfr
        go_wp2_with fail
        go_meet
        case rel => exact ⟨Hfr.out, hn.out⟩
  case rest =>
    obtain ⟨hfc, hnp⟩ := hcut
    have Hfc := hide hfc
    have Hnp := hide hnp
    clear hfc hnp Hf1
    go_upto_block 2 with fail
    go_cut [9] from 43 to 52 (fun _ wx => Fr (fun _ => False) W wx ∧ NoSl d.data.toList)
    case first =>
      go_wp2_with fail
      go_loopg [9] d.size (fun gk i wr => ∃ k, gk + k = d.size ∧ i = .int .i64 k ∧ Fr (fun _ => False) W wr ∧ NoSl (d.data.toList.take k))
      case atStart => exact ⟨0, by omega, rfl, Hfc.out, fun c hc => by simp at hc⟩
      case round =>
        obtain ⟨k, hgk, rfl, hfr, hno⟩ := hrel
        have Hfr := hide hfr
        by_cases hlt : k < d.size
        · have hkl : k < d.data.toList.length := by rw [ba_len]; exact hlt
          have htk : d.data.toList.take (k + 1) = d.data.toList.take k ++ [d[k]] := by rw [List.take_succ_eq_append_getElem hkl]; rfl
          have hi0 : (0 : Int) ≤ (k : Int) := by omega
          have hi1 : (k : Int) < (d.size : Int) := by omega
          by_cases e : d[k] = slashB
          · have hfin := hide (show LawPost W (.returned (.bool true)) wr from ⟨rfl, hfr.below (fun _ _ e => e)⟩)
            have e2 : ((d[k].toNat : Int) == 47) = true := by rw [e]; rfl
            clear hno hgk htk e hfr
            go_wp2_with fail
            go_ret
            exact hfin.out
          · have e2 : ((d[k].toNat : Int) == 47) = false := by
              rw [beq_eq_false_iff_ne]
              intro h
              exact e (UInt8.toNat_inj.1 (by show d[k].toNat = 47; omega))
            have hn := hide (show NoSl (d.data.toList.take (k + 1)) from fun c hc => by
              rw [htk, List.mem_append] at hc
              rcases hc with hc | hc
              · exact hno c hc
              · rw [List.mem_singleton.1 hc]; exact e)
            have hm := hide (show gk - 1 < gk by omega)
            have hgk2 := hide (show gk - 1 + (k + 1) = d.size by omega)
            clear hno hgk htk e hfr
            go_wp2_with fail
            go_roundg (gk - 1)
            case measure => exact hm.out
            case rel => exact ⟨k + 1, hgk2.out, by go_num, Hfr.out, hn.out⟩
        · have hi1 : ¬ (k : Int) < (d.size : Int) := by omega
          have hn := hide (show NoSl d.data.toList by rw [List.take_of_length_le (by rw [ba_len]; omega)] at hno; exact hno)
          clear hno hgk hfr
          go_wp2_with fail
          go_meet
          case rel => exact ⟨Hfr.out, hn.out⟩
    case rest =>
      obtain ⟨hfc, hnd⟩ := hcut
      have Hfc2 := hide hfc
      have Hnd := hide hnd
      clear hfc hnd Hfc
      go_wp2_with fail
      refine (laid_any _ a len cap (Hml.out.below Hfc2.out) (Hc.out.stillB Hfc2.out)).mono ?_
      rintro e w2 ⟨f, g, σ, S, pp, rfl, hA, hL, hS, hf2⟩
      have Hf2 := hide (Hfc2.out.trans hf2)
      have hml2 := Hml.out.below Hf2.out
      have hwa := hide (Walk_any w2 f σ S pp hA hml2 1 (by decide) d Hd.out)
      have hws := hide fun h => walk_some (d := d.data.toList) hL H2.out (by rw [ba_len]; exact h3) Hnd.out h
      have HA := hide hA
      have HL := hide hL
      have Hml2 := hide hml2
      obtain ⟨wk, hwk⟩ : ∃ wk, wk = walkE σ 1 d.data.toList := ⟨_, rfl⟩
      rw [← hwk] at hwa hws
      obtain ⟨E, N⟩ := wk
      have Hwk := hide hwk
      clear hA hL hS hf2 hml2 hwk
      simp only at hwa hws
      by_cases hE : E = 0
      rotate_left
      · rw [if_neg hE] at hwa
        have hst := hide fun w3 (hf : Fr (fun _ => False) w2 w3) => Stat_any w3 f σ S pp (HA.out.frame hf (fun _ _ _ e => e)) (HL.out.good.b (by decide)) 0 (by decide)
        have e0 : statT σ 0 = ⟨0, 0, 0, 0, 0⟩ := rfl
        have e1 : statE σ 0 = 9 := rfl
        rw [e0, e1] at hst
        simp only [stV] at hst
        have hE2 : (E == 0) = false := by simp [hE]
        clear e0 e1
        go_wp2_with fail
        refine hwa.out.mono ?_
        rintro e w3 ⟨rfl, hf3⟩
        have Hst := hide (hst.out w3 hf3)
        have Hf3 := hide (Hf2.out.trans hf3)
        clear hf3 hst
        go_wp2_with fail
        refine Hst.out.mono ?_
        rintro e w4 ⟨rfl, hf4⟩
        have hfin := hide fun o => (show LawPost W (.returned (.bool true)) (w4.alloc o) from ⟨rfl, ((Hf3.out.trans hf4).alloc o).below (fun _ _ e => e)⟩)
        clear hf4 Hf3 Hst
        go_wp2_with fail
        go_ret
        exact hfin.out _
      · subst hE
        rw [if_pos rfl] at hwa
        obtain ⟨nd, hnd⟩ := Option.isSome_iff_exists.1 (hws.out rfl)
        have hNl : N ≤ 100 := Nat.le_trans (FSt.nd_lt (show (σ.nd N).isSome = true by rw [hnd]; rfl)).2 HL.out.good.live.len
        have hst := hide fun w3 (hf : Fr (fun _ => False) w2 w3) => Stat_any w3 f σ S pp (HA.out.frame hf (fun _ _ _ e => e)) (HL.out.good.b (by decide)) (N : Int) (by omega)
        obtain ⟨s0, s1, s2, s3, s4, e2⟩ : ∃ s0 s1 s2 s3 s4, statT σ (N : Int) = ⟨s0, s1, s2, s3, s4⟩ := ⟨_, _, _, _, _, rfl⟩
        have e1 : statE σ (N : Int) = 0 := by unfold statE; rw [ndI_nat hnd]
        have e3 : s1 = if nd.d then 2 else 1 := by
          unfold statT at e2
          rw [ndI_nat hnd] at e2
          injection e2 with _ h
          exact h.symm
        rw [e1, e2] at hst
        simp only [stV] at hst
        clear e1 e2
        by_cases hdd : nd.d = true
        rotate_left
        · have hdd : nd.d = false := by simpa using hdd
          rw [hdd, if_neg (by decide)] at e3
          subst e3
          go_wp2_with fail
          refine hwa.out.mono ?_
          rintro e w3 ⟨rfl, hf3⟩
          have Hst := hide (hst.out w3 hf3)
          have Hf3 := hide (Hf2.out.trans hf3)
          clear hf3 hst
          go_wp2_with fail
          refine Hst.out.mono ?_
          rintro e w4 ⟨rfl, hf4⟩
          have hfin := hide fun o => (show LawPost W (.returned (.bool true)) (w4.alloc o) from ⟨rfl, ((Hf3.out.trans hf4).alloc o).below (fun _ _ e => e)⟩)
          clear hf4 Hf3 Hst
          go_wp2_with fail
          go_ret
          exact hfin.out _
        rw [hdd, if_pos rfl] at e3
        subst e3
        have Hdd := hide hdd
        have Hnd2 := hide hnd
        clear hdd hnd hws
        go_wp2_with fail
        refine hwa.out.mono ?_
        rintro e w3 ⟨rfl, hf3⟩
        have Hst := hide (hst.out w3 hf3)
        have Hf3 := hide hf3
        clear hf3 hst hwa
        go_wp2_with fail
        refine Hst.out.mono ?_
        rintro e w4 ⟨rfl, hf4⟩
        have hf5 : Fr (fun _ => False) w2 (w4.alloc (.cells #[.int .i64 s0, .int .i64 2, .int .i64 s2, .int .i64 s3, .int .i64 s4] 42 (0, 0))) := (Hf3.out.trans hf4).alloc _
        have Hf5 := hide hf5
        have hgw := hide fun w5 (hf : Fr (fun _ => False) w2 w5) => gwild_any w5 _ _ p (Hp.out.still (Hf2.out.trans hf))
        clear hf4 hf5 Hst Hf3
        cases hwl : wildL p with
        | false =>
          rw [hwl] at hgw
          go_wp2_with fail
          refine (hgw.out _ Hf5.out).mono ?_
          rintro e w6 ⟨rfl, hf6⟩
          have hfin := hide (show LawPost W (.returned (.bool true)) w6 from ⟨rfl, ((Hf2.out.trans Hf5.out).trans hf6).below (fun _ _ e => e)⟩)
          clear hf6 Hf5 hgw
          go_wp2_with fail
          go_ret
          exact hfin.out
        | true =>
          rw [hwl] at hgw
          have Hwl := hide hwl
          clear hwl
          go_wp2_with fail
          refine (hgw.out _ Hf5.out).mono ?_
          rintro e w6 ⟨rfl, hf6⟩
          have hf26 := Hf5.out.trans hf6
          have hgb := glob_below HL.out (by decide) H2.out (by rw [ba_len]; exact h3) Hnd.out Hnp.out Hwl.out Hwk.out.symm Hnd2.out Hdd.out
          have hgp := hide (gpaths_any w6 f σ S pp _ N _ p (HA.out.frame hf26 (fun _ _ _ e => e)) (Hml2.out.below hf26) (HL.out.good.b (by decide)) (by omega) (Hp.out.still (Hf2.out.trans hf26)) (by omega) (by have := hgb.2.1; omega))
          have Hgb := hide hgb
          have Hf6 := hide hf26
          clear hgw hf6 hf26 hgb Hf5
          unfold PathsPost at hgp
          go_wp2_with fail
          refine hgp.out.mono ?_
          rintro e w7 ⟨v7, rfl, hlv, hf7⟩
          have hsm := glob_small (σ := σ) (dir := N) (p := p)
          obtain ⟨l, hl⟩ : ∃ l, l = (globL σ N p).map fun x => (⟨x.toArray⟩ : ByteArray) := ⟨_, rfl⟩
          have hll : l.length ≤ 200 := by rw [hl, List.length_map]; exact hsm.1
          have hlz : ∀ x ∈ l, x.size ≤ 256 := fun x hx => by
            rw [hl] at hx
            obtain ⟨y, hy, rfl⟩ := List.mem_map.1 hx
            have := hsm.2 y hy
            rw [← ba_len]
            exact this
          have hbm := below_map d (globL σ N p)
          rw [← Hgb.out.1, ← hl] at hbm
          rw [← hl] at hlv
          obtain ⟨la, lc, rfl⟩ := hlv.form
          have H0 := hide (show GbRel d l w7 l.length (.slice none 0 0) (.int .i64 (0 : Nat)) w7 from ⟨_, 0, rfl, rfl, rfl, ⟨rfl, .inl ⟨rfl, rfl⟩⟩, Fr.refl _ _⟩)
          have Hlv := hide hlv
          have Hll := hide hll
          have Hlz := hide hlz
          have Hbm := hide hbm
          have Hf7 := hide (Hf6.out.trans hf7)
          clear hlv hll hlz hbm hf7 hl hsm hgp
          go_wp2_with fail
          go_loopg [16, 87] l.length (fun gk v i wr => GbRel d l w7 gk v i wr)
          case atStart => exact H0.out
          case round =>
            clear H0
            obtain ⟨v, k, rfl, hgk, rfl, hO, hfr⟩ := hrel
            have Hgk := hide hgk
            clear hgk
            by_cases hlt : k < l.length
            · obtain ⟨-, hcn, hrr⟩ := Hlv.out.at
              obtain ⟨g2, o2, rfl, hcell⟩ := hrr.resolve_left (by omega)
              have hck := hcell k hlt
              have hck' := (World.cell?_of_block (w := w7) (a := ⟨g2, o2 + k, none⟩) (hfr.block g2 (World.block_lt_of_cell? _ _ hck) (fun e => e))).trans hck
              have hxz := Hlz.out l[k] (List.getElem_mem hlt)
              have hws := below_step (d := d) hlt
              generalize hx : l[k] = x at *
              have hli0 : (0 : Int) ≤ (k : Int) := by omega
              have hli1 : (k : Int) < (l.length : Int) := by omega
              have hkb : (k : Int) < 200 := by have := Hll.out; omega
              have hkn : k < 200 := by omega
              have hl1 : ¬ (9223372036854775807 < d.size + 1) := by omega
              have hl2 : ¬ (9223372036854775807 < d.size + 1 + x.size) := by omega
              have hadd : ∀ v' w4, w4.ownsRow w7.heap.size 9 1 v' (k + 1) (strs (belowB d (l.take k)) ++ [.string (d ++ ⟨#[47]⟩ ++ x)]) → Fr (fun q => v.ownBlock = some q) wr w4 → GbRel d l w7 (gk - 1) v' (.int .i64 ((k : Int) + 1)) w4 := fun v' w4 h1 h2 => by
                refine ⟨v', k + 1, rfl, by have := Hgk.out; omega, by go_num, ?_, hfr.trans' h2 fun i hi e => by have := (hO.lt i e).1; omega⟩
                rw [hws]
                simp only [strs, List.map_append, List.map_cons, List.map_nil] at h1 ⊢
                exact h1
              have Hadd := hide hadd
              have Hm := hide (show gk - 1 < gk by have := Hgk.out; omega)
              have Hsz := hide hfr.size
              clear hadd hws hfr hck hcell hx hcn hrr
              have hsz := Hsz.out
              go_wp2_with (at_builtin; refine wpList_append_own _ rfl _ _ 28 rfl w7.heap.size 9 i0 (.string ⟨#[]⟩) 1 16 Tryz.underlying28 hinf hz0 hz1 hz2 rfl (by decide) _ _ _ rfl (hO.alloc _) ⟨wr.heap.size, 0, none⟩ 1 1 [.string (d ++ ⟨#[47]⟩ ++ x)] rfl rfl ?c1 ?c2 ?c3 ?c4 ?c5 ?_)
              case c1 => exact cell_one_new _ _ _
              case c2 => intro u hu; simp at hu; subst hu; rfl
              case c3 => unfold maxLen; omega
              case c4 => omega
              case c5 => simp; omega
              intro v' w4 hown' hgrow _
              have hn := hide (Hadd.out v' w4 hown' (((Fr.refl _ _).alloc _).trans (Fr.of_grown hgrow |>.mono fun _ _ e => e.symm ▸ rfl)))
              clear Hadd hown' hgrow hO hsz
              go_wp2_with fail
              go_roundg (gk - 1)
              case measure => exact Hm.out
              case rel => exact hn.out
            · have hkl : k = l.length := by have := Hgk.out; omega
              subst hkl
              rw [List.take_length] at hO
              have hli1 : ¬ (l.length : Int) < (l.length : Int) := by omega
              have hl1 : ¬ (9223372036854775807 < d.size + 1) := by omega
              have hdz : (d ++ ⟨#[47]⟩ : ByteArray).size = d.size + 1 := by rw [ByteArray.size_append]; rfl
              have hpl := hide (plain_any wr (d ++ ⟨#[47]⟩) (by rw [hdz]; omega))
              have HO := hide hO
              have Hfr := hide hfr
              clear hO hfr hlt
              obtain ⟨i1, hinf1, hy0, hy1, hy2⟩ := info_parts ch_info
              go_wp2_with fail
              refine hpl.out.mono ?_
              rintro e w8 ⟨pv0, rfl, hp1, hp2⟩
              have htd : (d ++ ⟨#[47]⟩ : ByteArray).data.toList = d.data.toList ++ [slashB] := by rw [ba_append]; rfl
              rw [htd] at hp1
              have hln : (plainL (d.data.toList ++ [slashB])).length ≤ 21 := by rw [plain_len, List.length_append, ba_len]; show d.size + 1 ≤ 21; omega
              have hsz4 := hp2.size
              have hpA := Hp.out.still (((Hf2.out.trans Hf7.out).trans Hfr.out).trans hp2)
              obtain ⟨-, -, -, A⟩ := hpA.at
              obtain ⟨g, o, rfl, -, hg, C⟩ := A.resolve_left (fun e => by have := Hwl.out; rw [e] at this; cases this)
              have hcl := hide (chCells_cell C)
              clear C hpA
              go_wp2_with (at_builtin; refine wpList_append_own _ rfl _ _ 32 rfl wr.heap.size 35 i1 (.agg #[.int .u8 0, .bool false]) 2 2 Tryz.underlying32 hinf1 hy0 hy1 hy2 rfl (by decide) _ _ _ rfl hp1 ⟨g, o, none⟩ p.length pc (chCells p) rfl (chCells_len p) ?c1 ?c2 ?c3 ?c4 ?c5 ?_)
              case c1 => exact hcl.out
              case c2 => exact chCells_one p
              case c3 => unfold maxLen; omega
              case c4 => omega
              case c5 => omega
              intro v' w9 hown' hgrow _
              have hf45 : Fr (fun q => pv0.ownBlock = some q) w8 w9 := Fr.of_grown hgrow |>.mono fun _ _ e => e.symm ▸ rfl
              have hfr5 : Fr (fun _ => False) wr w9 := hp2.trans' hf45 (fun i hi e => by have := (hp1.lt i e).1; omega)
              have hch : ChV w9 (fun k => wr.heap.size ≤ k) v' (plainL (d.data.toList ++ [slashB]) ++ p) := by
                have h1 : w9.ownsRow wr.heap.size 35 2 v' (plainL (d.data.toList ++ [slashB]) ++ p).length (chCells (plainL (d.data.toList ++ [slashB]) ++ p)) := by
                  rw [List.length_append, chCells_app]
                  exact hown'
                exact own_ch h1
              have hf29 := (Hf7.out.trans Hfr.out).trans hfr5
              have hgp := gpaths_any w9 f σ S pp _ 1 v' (plainL (d.data.toList ++ [slashB]) ++ p) (HA.out.frame hf29 (fun _ _ _ e => e)) (Hml2.out.below hf29) (HL.out.good.b (by decide)) (by decide) hch (by rw [List.length_append]; omega) (Nat.le_trans Hgb.out.2.2 (by decide))
              rw [show ((1 : Nat) : Int) = 1 from rfl] at hgp
              unfold PathsPost at hgp
              rw [Hbm.out] at hgp
              have Hgp := hide hgp
              have HO5 := hide (own_frame HO.out hfr5 (fun _ _ e => e))
              have Hf9 := hide hf29
              clear hch hgp hfr5 hf45 hown' hgrow hp1 hp2 hpl hcl hf29
              go_wp2_with fail
              refine Hgp.out.mono ?_
              rintro e w10 ⟨v10, rfl, h1, h2⟩
              have hll := Hll.out
              have htx := texts_any w10 _ (fun _ => True) v10 v _ _ h1 (own_args (own_frame HO5.out h2 (fun _ _ e => e)) (by unfold belowB; rw [List.length_map]) (fun _ _ => trivial)) (by unfold belowB; rw [List.length_map]; omega) (by unfold belowB; rw [List.length_map]; omega)
              rw [decide_eq_true rfl] at htx
              have Htx := hide htx
              have Hf10 := hide ((Hf2.out.trans Hf9.out).trans h2)
              clear h1 h2 htx Hgp HO5 hll
              go_wp2_with fail
              refine Htx.out.mono ?_
              rintro e w11 ⟨rfl, h1⟩
              have hfin := hide (show LawPost W (.returned (.bool true)) w11 from ⟨rfl, (Hf10.out.trans h1).below (fun _ _ e => e)⟩)
              clear h1 Htx
              go_wp2_with fail
              go_ret
              exact hfin.out
end Go.Proofs.YtlhmmiolnbgloaaGreatDoor
