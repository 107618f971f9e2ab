/- files.way.over. Conditions: the contract's own premises. -/
import Derived.Test.YtffekmjoenppaaaGreatDoorFilesA
import Derived.Deep.CutBlock
import Derived.Deep.DeepCutAuto
import Derived.Test.YtffekmjoenppaaaGreatDoorShelf
import Derived.Test.YtffekmjoenppaaaGreatDoorProg
import Derived.Test.YtffekmjoenppaaaGreatDoorRows
import Derived.Test.YtffekmjoenppaaaGreatDoorOwn
import Derived.ProofKit
import Derived.OpenShut
import Derived.ShutString
import Derived.ChangeOld
import Derived.Deep.Slices
import Derived.Deep.Fields
import Derived.ChangeSame
import Derived.SizedLaws
import Derived.SliceStrings
import Derived.HandedShaped
import Derived.LaidMore
import Derived.Lay
import Derived.Stop.Joined
import Derived.Shelf.Vars
import Derived.Deep.QuietTactic
import Derived.BigQuiet
import Derived.StillTailTactics
namespace Go.Proofs.YtffekmjoenppaaaGreatDoor
open Go.RowKit

theorem overS_append (σ : FSt) : ∀ (x y : List (List UInt8)) (a : Nat), overS σ (x ++ y) a = if (overS σ x a).1 ≠ 0 then overS σ x a else overS σ y (overS σ x a).2
  | [], y, a => by simp [overS]
  | c :: x, y, a => by
    by_cases h : (stepS σ a c).1 = 0
    · simp [overS, h, overS_append σ x y]
    · simp [overS, h]
theorem over_next {σ : FSt} {l : List (List UInt8)} {k a a0 : Nat} (hk : k < l.length) (h : overS σ (l.take k) a0 = (0, a)) (hs : (stepS σ a l[k]).1 = 0) : overS σ (l.take (k + 1)) a0 = (0, (stepS σ a l[k]).2) := by
  rw [List.take_succ_eq_append_getElem hk, overS_append, h, if_neg (by simp)]
  simp only [overS]
  rw [if_neg (by simp [hs])]
theorem over_err {σ : FSt} {l : List (List UInt8)} {k m a a0 : Nat} (hk : k < m) (hm : m ≤ l.length) (h : overS σ (l.take k) a0 = (0, a)) (hs : (stepS σ a (l[k]'(by omega))).1 ≠ 0) : overS σ (l.take m) a0 = stepS σ a (l[k]'(by omega)) := by
  have e : l.take m = l.take k ++ (l[k]'(by omega) :: (l.take m).drop (k + 1)) := by
    have h1 := (List.take_append_drop (k + 1) (l.take m)).symm
    rw [List.take_take, Nat.min_eq_left (by omega), List.take_succ_eq_append_getElem (by omega : k < l.length), List.append_assoc] at h1
    exact h1
  rw [e, overS_append, h, if_neg (by simp)]
  simp only [overS]
  rw [if_pos hs]
/-- Where a step leads is there. -/
theorem Live.step {σ : FSt} (h : Live σ) {a : Nat} (ha : (σ.nd a).isSome = true) (q : List UInt8) : (σ.nd (stepS σ a q).2).isSome = true := by
  unfold stepS
  cases hn : σ.nd a with
  | none => rw [hn] at ha; cases ha
  | some n =>
    simp only
    unfold stepE
    split
    · simp only; rw [hn]; rfl
    · split
      · simp only; rw [hn]; rfl
      · split
        · split
          · simp only; rw [hn]; rfl
          · rename_i h1 _ _ h2
            refine h.par a n hn ?_ (by omega)
            unfold hereE at h1
            cases hd : n.d with
            | true => rfl
            | false => rw [hd] at h1; simp at h1
        · split
          · simp only; rw [hn]; rfl
          · cases hk : kget q n.ents with
            | none => simp only [leadE]; rw [hn]; rfl
            | some k => exact h.ents a n hn _ (kget_mem hk)
def OverRel (σ : FSt) (p : Nat → Nat) (l : List (List UInt8)) (m a0 b : Nat) (sv : Value) (sl : Bool) (w : World) (gk : Nat) (i : Value) (wr : World) : Prop :=
  ∃ k a : Nat, gk + k = m ∧ i = .int .i64 k ∧ overS σ (l.take k) a0 = (0, a) ∧ (σ.nd a).isSome = true ∧ wayB wr b (p a) sv sl ∧ Fr (fun k => k = b) w wr
def OverPost (σ : FSt) (p : Nat → Nat) (l : List (List UInt8)) (a0 b : Nat) (sv : Value) (sl : Bool) (w : World) (e : Ending) (w' : World) : Prop :=
  e = .returned (.int .i64 (overS σ l a0).1) ∧ (σ.nd (overS σ l a0).2).isSome = true ∧ wayB w' b (p (overS σ l a0).2) sv sl ∧ Fr (fun k => k = b) w w'
set_option maxRecDepth 100000 in
set_option maxHeartbeats 8000000 in
theorem over_any (w : World) (f : Nat) (σ : FSt) (S : Nat → Prop) (p : Nat → Nat) (h : FilesAt w f σ S p) (b a0 : Nat) (l : List ByteArray) (sv : Value) (sl : Bool) (S' : Nat → Prop) (hl : ArgsV w S' sv l) (hb' : ¬ S' b) (hb : ¬ S b)
    (hw : wayB w b (p a0) sv sl) (ha0 : (σ.nd a0).isSome = true) (m : Nat) (hm : m ≤ l.length) (hl200 : l.length ≤ 1000) (hsz : ∀ s ∈ l, s.size ≤ 1000) :
    Calls Tryz.prog 99 #[.pointer (some ⟨b, 0, none⟩), .int .i64 m] w (OverPost σ p ((l.map (·.data.toList)).take m) a0 b sv sl w) := by
  obtain ⟨la, lc, rfl⟩ := hl.form
  obtain ⟨_, hlc, hcells⟩ := hl.at
  have hch := cut_highS (a := la) hm hlc
  have c1 : w.cell? ⟨b, 1, none⟩ = some (.slice la l.length lc) := by rw [blk_cell hw]; rfl
  have Hcells := hide hcells
  have Hl := hide hl
  have Hsz := hide hsz
  clear hcells hl hsz
  go_enter Tryz.func99, Tryz.ntmps99
  go_wp2_with fail
  go_loopg [16] m (fun gk i wr => OverRel σ p (l.map (·.data.toList)) m a0 b (.slice la l.length lc) sl w gk i wr)
  case atStart => exact ⟨0, a0, by omega, rfl, rfl, ha0, hw, Fr.refl _ _⟩
  case round =>
    clear c1
    obtain ⟨k, a, hgk, rfl, hov, ha, hwr, hfr⟩ := hrel
    have Hgk := hide hgk
    have Hov := hide hov
    clear hgk hov
    by_cases hlt : k < m
    · have hkl : k < l.length := by omega
      have hkm : k < (l.map (·.data.toList)).length := by simpa using hkl
      obtain ⟨g, o, rfl, hc⟩ := Hcells.out.resolve_left (by omega)
      have ck := hc k hkl
      obtain ⟨a', cap', ea, _, _, hg⟩ := Hl.out
      cases ea
      have hgb : g ≠ b := by
        rcases hg with hg | ⟨g', o', hg, hS', _⟩
        · simp [hg] at hkl
        · cases hg; exact fun e => hb' (e ▸ hS')
      replace ck := (World.cell?_of_block (a := ⟨g, o + k, none⟩) (hfr.block g (World.block_lt_of_cell? _ _ ck) hgb)).trans ck
      have hqs := Hsz.out l[k] (List.getElem_mem hkl)
      have hfA := h.frame hfr (fun k _ e e2 => hb (e2 ▸ e))
      obtain ⟨n, hn⟩ := Option.isSome_iff_exists.1 ha
      obtain ⟨dvn, evn, pvn, hnd⟩ := hfA.node hn
      have hlive := hfA.live
      have hSa : S (p a) := by obtain ⟨_, _, _, _, h9⟩ := h; exact h9.ownn a ha
      have hne : p a ≠ b := fun e => hb (e ▸ hSa)
      have hstep : stepS σ a l[k].data.toList = stepE n a l[k].data.toList := by unfold stepS; rw [hn]
      have hgk2 : (l.map (·.data.toList))[k]'hkm = l[k].data.toList := by simp
      have herr := hide (show ∀ (ev : Int) (w' : World), ev ≠ 0 → stepE n a l[k].data.toList = (ev, a) → wayB w' b (p a) (.slice (some ⟨g, o, none⟩) l.length lc) sl → Fr (fun k => k = b) w w' → OverPost σ p ((l.map (·.data.toList)).take m) a0 b (.slice (some ⟨g, o, none⟩) l.length lc) sl w (.returned (.int .i64 ev)) w' from fun ev w' h1 h2 h3 h4 => by
        have e1 := over_err (σ := σ) hlt (by simpa using hm) Hov.out (by rw [hgk2, hstep, h2]; exact h1)
        rw [hgk2, hstep, h2] at e1
        unfold OverPost
        rw [e1]
        exact ⟨rfl, ha, h3, h4⟩)
      have hnext := hide (show ∀ (a' : Nat) (w' : World), stepE n a l[k].data.toList = (0, a') → wayB w' b (p a') (.slice (some ⟨g, o, none⟩) l.length lc) sl → Fr (fun k => k = b) w w' → OverRel σ p (l.map (·.data.toList)) m a0 b (.slice (some ⟨g, o, none⟩) l.length lc) sl w (gk - 1) (.int .i64 ((k : Int) + 1)) w' from fun a' w' h2 h3 h4 => by
        have e1 := over_next (σ := σ) hkm Hov.out (by rw [hgk2, hstep, h2])
        rw [hgk2, hstep, h2] at e1
        have h5 := hlive.step ha l[k].data.toList
        rw [hstep, h2] at h5
        exact ⟨k + 1, a', by have := Hgk.out; omega, by go_num, e1, h5, h3, h4⟩)
      have hkI : (k : Int) < (m : Int) := by omega
      have hkL : (k : Int) < (l.length : Int) := by omega
      have hhere := here_any wr p b a n dvn evn pvn hnd hwr
      have Hfr := hide hfr
      have Hnd := hide hnd
      clear hc hg hstep hgk2 hlive hnd hfr hfA ha hkm
      generalize l[k] = q at *
      have hc0 : wr.cell? ⟨b, 0, none⟩ = some (.pointer (some ⟨p a, 0, none⟩)) := by rw [blk_cell hwr]; rfl
      have hz0 : wr.frozen? ⟨b, 0, none⟩ = false := blk_frozen hwr 0
      have Hwr := hide hwr
      clear hwr
      rcases (show hereE n = 20 ∨ hereE n = 13 ∨ hereE n = 0 by unfold hereE; split; · exact .inl rfl
                                                                · split; · exact .inr (.inl rfl)
                                                                  · exact .inr (.inr rfl)) with h1 | h1 | h1
      · have hfin := hide (herr.out 20 wr (by decide) (by unfold stepE; rw [if_pos (by rw [h1]; decide), h1]) Hwr.out Hfr.out)
        rw [h1] at hhere
        clear hnext herr h1
        go_wp2_with fail
        refine hhere.mono ?_
        rintro e w' ⟨rfl, rfl⟩
        go_wp2_with fail
        go_ret
        exact hfin.out
      · have hfin := hide (herr.out 13 wr (by decide) (by unfold stepE; rw [if_pos (by rw [h1]; decide), h1]) Hwr.out Hfr.out)
        rw [h1] at hhere
        clear hnext herr h1
        go_wp2_with fail
        refine hhere.mono ?_
        rintro e w' ⟨rfl, rfl⟩
        go_wp2_with fail
        go_ret
        exact hfin.out
      · have H1 := hide h1
        rw [h1] at hhere
        have hd : n.d = true := by
          unfold hereE at h1
          cases hd : n.d with
          | true => rfl
          | false => rw [hd] at h1; simp at h1
        clear h1
        have hst : stepE n a q.data.toList = if q.data.toList = dot then (0, a) else if q.data.toList = dots then (if n.links = 0 then (2, a) else (0, n.par)) else if 32 < q.data.toList.length then (36, a) else leadE a (kget q.data.toList n.ents) := by
          unfold stepE
          rw [if_neg (by simp [H1.out])]
        have Hst := hide hst
        clear hst
        obtain ⟨-, mb, hev, hmp⟩ := Hnd.out.dir hd
        by_cases q1 : q.toList = [46]
        · have hnx := hide (hnext.out a wr (by rw [Hst.out, if_pos (by rw [← ByteArray.toList_eq, q1]; rfl)]) Hwr.out Hfr.out)
          clear hnext herr
          go_wp2_with fail
          refine hhere.mono ?_
          rintro e w' ⟨rfl, rfl⟩
          go_wp2_with fail
          go_roundg (gk - 1)
          case measure => have := Hgk.out; omega
          case rel => exact hnx.out
        have n1 : ¬ q.data.toList = dot := fun e => q1 (by rw [ByteArray.toList_eq, e]; rfl)
        have b1 : (q.toList == [46]) = false := by simpa using q1
        clear q1
        by_cases q2 : q.toList = [46, 46]
        · have hs2 : stepE n a q.data.toList = if n.links = 0 then (2, a) else (0, n.par) := by rw [Hst.out, if_neg n1, if_pos (by rw [← ByteArray.toList_eq, q2]; rfl)]
          have c3 : wr.cell? ⟨p a, 3, none⟩ = some (.int .i64 n.links) := by rw [blk_cell Hnd.out.hb]; rfl
          by_cases hl0 : n.links = 0
          · have hfin := hide (herr.out 2 wr (by decide) (by rw [hs2, if_pos hl0]) Hwr.out Hfr.out)
            rw [hl0] at c3
            clear hnext herr hs2 n1
            go_wp2_with fail
            refine hhere.mono ?_
            rintro e w' ⟨rfl, rfl⟩
            go_wp2_with fail
            go_ret
            exact hfin.out
          · have hpv := Hnd.out.par hd (by omega)
            have c7 : wr.cell? ⟨p a, 7, none⟩ = some (.pointer (some ⟨p n.par, 0, none⟩)) := by rw [blk_cell Hnd.out.hb, hpv]; rfl
            have hnx := hide (hnext.out n.par (wr.setCell ⟨b, 0, none⟩ (.pointer (some ⟨p n.par, 0, none⟩))) (by rw [hs2, if_neg hl0]) (by unfold wayB; rw [blk_set Hwr.out]; rfl) (Hfr.out.trans (frSet _ _ _ _)))
            have hl1 : ¬ (n.links : Int) = 0 := by omega
            clear hnext herr hs2 n1 hpv
            go_wp2_with fail
            refine hhere.mono ?_
            rintro e w' ⟨rfl, rfl⟩
            go_wp2_with fail
            go_roundg (gk - 1)
            case measure => have := Hgk.out; omega
            case rel => exact hnx.out
        have n2 : ¬ q.data.toList = dots := fun e => q2 (by rw [ByteArray.toList_eq, e]; rfl)
        have b2 : (q.toList == [46, 46]) = false := by simpa using q2
        clear q2
        by_cases q3 : 32 < q.size
        · have hfin := hide (herr.out 36 wr (by decide) (by rw [Hst.out, if_neg n1, if_neg n2, if_pos (by rw [ba_len]; exact q3)]) Hwr.out Hfr.out)
          have q3i : (32 : Int) < (q.size : Int) := by omega
          clear hnext herr n1 n2
          go_wp2_with fail
          refine hhere.mono ?_
          rintro e w' ⟨rfl, rfl⟩
          go_wp2_with fail
          go_ret
          exact hfin.out
        have hs3 : stepE n a q.data.toList = leadE a (kget q.data.toList n.ents) := by rw [Hst.out, if_neg n1, if_neg n2, if_neg (by rw [ba_len]; exact q3)]
        have q3i : ¬ (32 : Int) < (q.size : Int) := by omega
        have c6 : wr.cell? ⟨p a, 6, none⟩ = some (.map (some mb)) := by rw [blk_cell Hnd.out.hb, hev]; rfl
        have hlook := hmp.look (t := 87) (e := 84) false Tryz.underlying9 Tryz.underlying87 (show (zeroValue 84).run Tryz.prog wr = .ok (.pointer none) wr by kernel_rfl) q (by unfold maxLen; omega)
        rw [if_neg (by simp), kget_kmap] at hlook
        cases hk : kget q.data.toList n.ents with
        | none =>
          rw [hk] at hlook hs3
          simp only [Option.map_none, Option.getD_none] at hlook
          have hfin := hide (herr.out 2 wr (by decide) hs3 Hwr.out Hfr.out)
          clear hnext herr n1 n2 hs3 hk hmp
          go_wp2_with fail
          refine hhere.mono ?_
          rintro e w' ⟨rfl, rfl⟩
          go_wp2_with fail
          go_ret
          exact hfin.out
        | some k' =>
          rw [hk] at hlook hs3
          simp only [Option.map_some, Option.getD_some] at hlook
          have hnx := hide (hnext.out k' (wr.setCell ⟨b, 0, none⟩ (.pointer (some ⟨p k', 0, none⟩))) hs3 (by unfold wayB; rw [blk_set Hwr.out]; rfl) (Hfr.out.trans (frSet _ _ _ _)))
          clear hnext herr n1 n2 hs3 hk hmp
          go_wp2_with fail
          refine hhere.mono ?_
          rintro e w' ⟨rfl, rfl⟩
          go_wp2_with fail
          go_roundg (gk - 1)
          case measure => have := Hgk.out; omega
          case rel => exact hnx.out
    · have hk : k = m := by have := Hgk.out; omega
      have hov := Hov.out
      rw [hk] at hov
      have hfin := hide (show OverPost σ p ((l.map (·.data.toList)).take m) a0 b (.slice la l.length lc) sl w (.returned (.int .i64 0)) wr from by
        unfold OverPost
        rw [hov]
        exact ⟨rfl, ha, hwr, hfr⟩)
      have hkI : ¬ (k : Int) < (m : Int) := by omega
      clear hov hwr
      go_wp2_with fail
      go_ret
      exact hfin.out
end Go.Proofs.YtffekmjoenppaaaGreatDoor

/- files.FS.start: where a path begins, and its pieces. Conditions: the contract's own premises. -/
namespace Go.Proofs.YtffekmjoenppaaaGreatDoor
open Go.RowKit

theorem split_eq : ∀ s : List UInt8, Lib.splitK [47] 0 (s.count 47) s = splitS s
  | [] => rfl
  | c :: r => by
    have ih := split_eq r
    by_cases hc : c = 47
    · subst hc
      rw [List.count_cons_self]
      unfold Lib.splitK
      have h0 : Lib.index ((47 : UInt8) :: r) [47] = 0 := by unfold Lib.index; rw [if_pos (by simp [List.isPrefixOf])]
      rw [h0, if_neg (by decide)]
      simp only [Int.toNat_zero, Nat.zero_add, List.take_zero, List.length_cons, List.length_nil, List.drop_succ_cons, List.drop_zero]
      rw [ih]
      show _ = (if (47 : UInt8) = slashB then _ else _)
      rw [if_pos (show (47 : UInt8) = slashB from rfl)]
    · have hcount : (c :: r).count 47 = r.count 47 := by rw [List.count_cons, if_neg (by simpa using hc)]; rfl
      rw [hcount]
      have hS : splitS (c :: r) = match splitS r with | [] => [[c]] | p :: q => (c :: p) :: q := by
        show (if c = slashB then _ else _) = _
        rw [if_neg (show ¬ c = slashB from hc)]
        rfl
      rw [hS, ← ih]
      have hidx : Lib.index (c :: r) [47] = if Lib.index r [47] == -1 then -1 else Lib.index r [47] + 1 := by
        rw [Lib.index, if_neg (by simp [List.isPrefixOf]; exact fun e => hc e.symm)]
      cases hk : r.count 47 with
      | zero => rfl
      | succ k =>
        unfold Lib.splitK
        rw [hidx]
        by_cases hm : (Lib.index r [47] == -1) = true
        · rw [if_pos hm, if_pos (by decide), if_pos hm]
        · have hge := Lib.index_ge r [47]
          have hne : ¬ Lib.index r [47] = -1 := by simpa using hm
          rw [if_neg hm, if_neg (by simp; omega), if_neg hm]
          have ht : (Lib.index r [47] + 1).toNat = (Lib.index r [47]).toNat + 1 := by omega
          rw [ht]
          simp only [List.length_cons, List.length_nil, Nat.zero_add, Nat.add_zero, List.take_succ_cons, List.drop_succ_cons]
def slashBA : ByteArray := ⟨#[47]⟩
theorem splitB_eq (s : ByteArray) : (Lib.splitB slashBA 0 (Lib.countB s slashBA) s).map (·.data.toList) = splitS s.data.toList := by
  rw [Lib.splitB_data]
  show Lib.splitK [47] 0 (Lib.count s.data.toList [47]) s.data.toList = _
  rw [Lib.count_one]
  exact split_eq _
theorem piece_len : ∀ (s : List UInt8), ∀ q ∈ splitS s, q.length ≤ s.length
  | [], q, h => by simp [splitS] at h; simp [h]
  | c :: r, q, h => by
    have ih := piece_len r
    by_cases hc : c = slashB
    · simp only [splitS, if_pos hc, List.mem_cons] at h
      rcases h with rfl | h
      · simp
      · have := ih q h; simp; omega
    · simp only [splitS, if_neg hc] at h
      cases hs : splitS r with
      | nil => rw [hs] at h; simp at h; simp [h]
      | cons p t =>
        rw [hs] at h ih
        simp only [List.mem_cons] at h
        rcases h with rfl | h
        · have := ih p (by simp); simp; omega
        · have := ih q (by simp [h]); simp; omega
theorem split_count : ∀ (s : List UInt8), (splitS s).length ≤ s.length + 1
  | [] => by simp [splitS]
  | c :: r => by
    have ih := split_count r
    by_cases hc : c = slashB
    · simp only [splitS, if_pos hc, List.length_cons]; omega
    · simp only [splitS, if_neg hc]
      cases hs : splitS r with
      | nil => simp
      | cons p t => rw [hs] at ih; simp at ih ⊢; omega
/-- The library's own variable holds some number. -/
def Ml (w : World) : Prop := ∃ m, w.cell? ⟨Tryz.laysSplit_ren.g 1, 0, none⟩ = some (.int .i64 m)
theorem Ml.frame {w w' : World} {T : Nat → Prop} (h : Ml w) (hf : Fr T w w') (hT : ¬ T (Tryz.laysSplit_ren.g 1)) : Ml w' := by
  obtain ⟨m, hm⟩ := h
  exact ⟨m, (World.cell?_of_block (a := ⟨Tryz.laysSplit_ren.g 1, 0, none⟩) (hf.block _ (World.block_lt_of_cell? _ _ hm) hT)).trans hm⟩
theorem start1_any (x : ByteArray) (W : World) : Calls Tryz.prog 113 #[.string x] W fun e w' => e = .returned (.bool x.data.toList.isEmpty) ∧ ∃ q, w' = W.drewN q := by
  by_cases h : x.data.toList = []
  · have h1 := ba_empty h
    rw [h]
    go_enter Tryz.func113, Tryz.ntmps113
    go_wp2
    go_ret
    exact ⟨rfl, 0, rfl⟩
  · have h1 := ba_nonempty h
    have h2 : x.data.toList.isEmpty = false := by simpa using h
    rw [h2]
    go_enter Tryz.func113, Tryz.ntmps113
    go_wp2
    go_ret
    exact ⟨rfl, 0, rfl⟩
theorem split_any (s : ByteArray) (w : World) (hs : s.size ≤ 256) (hm : Ml w) : Calls Tryz.prog 112 #[.string s, .string ⟨#[47]⟩] w fun e w' =>
    e = .returned (.slice (some ⟨w.heap.size, 0, none⟩) (Lib.splitB slashBA 0 (Lib.countB s slashBA) s).length (Lib.splitB slashBA 0 (Lib.countB s slashBA) s).length) ∧ w' = w.alloc (.cells ((Lib.splitB slashBA 0 (Lib.countB s slashBA) s).map Value.string).toArray 9 (0, 0)) := by
  obtain ⟨m, hm⟩ := hm
  have h := Any.strings_Split Tryz.laysSplit (by kernel_rfl) s slashBA m w (by omega) hm (by decide)
  have hl := Lib.splitB_all slashBA (by decide) 0 _ s rfl
  rw [← hl] at h
  exact h
theorem fr_putRow {α : Type} [Inhabited α] (enc : α → Value) (w : World) (q blk off : Nat) (d : Array α) : Fr (fun k => k = blk) w (Sort.putRow enc (Sort.ahead w q) blk off d) := by
  refine ⟨rfl, rfl, rfl, ?_, fun i hi hne => ?_⟩
  · rw [Sort.size_putRow]; exact Nat.le_refl _
  · show (w.heap.modify blk _)[i]? = _
    rw [Array.getElem?_modify, if_neg (fun e => hne e.symm)]
/-- The pieces that aren't empty. -/
theorem del_any (w : World) (blk : Nat) (l : List ByteArray) (hb : w.heap[blk]? = some (.cells (l.map Value.string).toArray 9 (0, 0))) (hl : l.length ≤ 1000) :
    Calls Tryz.prog 111 #[.slice (some ⟨blk, 0, none⟩) l.length l.length, .func (.func 113) #[] #[]] w fun e w' =>
      ∃ c, e = .returned (.slice (some ⟨blk, 0, none⟩) (l.filter fun x => !x.data.toList.isEmpty).length c) ∧ ArgsV w' (fun k => k = blk) (.slice (some ⟨blk, 0, none⟩) (l.filter fun x => !x.data.toList.isEmpty).length c) (l.filter fun x => !x.data.toList.isEmpty) ∧ Fr (fun k => k = blk) w w' := by
  have eg : ∀ args w, (callFunc 113 args).run Tryz.prog w = .ok (.enter 113 args) w := enters_of Tryz.func113 (by kernel_rfl) rfl
  have hH : Sort.Holds Value.string w blk 0 l.toArray := fun j hj => by
    have hj' : j < l.length := by simpa using hj
    refine ⟨?_, ?_⟩
    · rw [blk_cell hb]
      simp [hj', getElem!_pos]
    · exact blk_frozen hb _
  have h := AnyE.slices_DeleteFunc Tryz.laysDel Value.string (fun _ => rfl) (fun x : ByteArray => x.data.toList.isEmpty) 113 #[] eg ⟨#[]⟩ (fun w => by kernel_rfl) blk 0 l.length l.toArray w
    (fun W x _ => start1_any x W) (fun n os dk x _ => start1_any x _) hH (by simp; omega) (by simp)
  rw [show l.toArray.size = l.length by simp] at h
  refine Calls.mono h ?_
  rintro e w' ⟨rfl, q, rfl⟩
  have hle := List.length_filter_le (fun x : ByteArray => !x.data.toList.isEmpty) l
  show ∃ c, Ending.returned (.slice (some ⟨blk, 0, none⟩) (l.filter fun x => !x.data.toList.isEmpty).length l.length) = _ ∧ ArgsV (Sort.putRow Value.string (Sort.ahead w q) blk 0 ((l.filter fun x => !x.data.toList.isEmpty) ++ List.replicate (l.length - (l.filter fun x => !x.data.toList.isEmpty).length) (⟨#[]⟩ : ByteArray)).toArray) _ _ _ ∧ Fr _ _ (Sort.putRow Value.string (Sort.ahead w q) blk 0 ((l.filter fun x => !x.data.toList.isEmpty) ++ List.replicate (l.length - (l.filter fun x => !x.data.toList.isEmpty).length) (⟨#[]⟩ : ByteArray)).toArray)
  generalize (l.filter fun x => !x.data.toList.isEmpty) = r at *
  have hH2 := Sort.holds_putRow Value.string (Sort.ahead w q) blk 0 l.toArray (r ++ List.replicate (l.length - r.length) (⟨#[]⟩ : ByteArray)).toArray
    (Sort.holds_ahead Value.string w q blk 0 l.toArray hH) (by simp; omega)
  refine ⟨l.length, rfl, ⟨some ⟨blk, 0, none⟩, l.length, rfl, hle, (fun e => nomatch e), .inr ⟨blk, 0, rfl, rfl, ?_, fun k hk => ?_⟩⟩, fr_putRow _ _ _ _ _ _⟩
  · rw [Sort.size_putRow]; exact blk_lt hb
  · have := (hH2 k (by simp; omega)).1
    rw [this]
    congr 2
    rw [getElem!_pos _ _ (by simp; omega)]
    simp [List.getElem_append_left hk]
theorem suffix_any (s : ByteArray) (w : World) (hs : s.size ≤ 9223372036854775807) : Calls Tryz.prog 114 #[.string s, .string ⟨#[47]⟩] w fun e w' => e = .returned (.bool (slashS s.data.toList)) ∧ w' = w := by
  have h := Any.strings_HasSuffix Tryz.laysSuffix s slashBA w hs
  have he : Lib.hasSuffix s.data.toList slashBA.data.toList = slashS s.data.toList := by
    show ([47] : List UInt8).isSuffixOf s.data.toList = (s.data.toList.getLast? == some slashB)
    generalize s.data.toList = l
    rcases List.eq_nil_or_concat l with rfl | ⟨r, c, rfl⟩
    · rfl
    · have : ([47] : List UInt8).isSuffixOf (r ++ [c]) = (c == 47) := by
        simp [List.isSuffixOf, List.isPrefixOf]
        exact Bool.beq_comm
      rw [List.concat_eq_append, this]
      simp [slashB]
  rw [he] at h
  exact h
end Go.Proofs.YtffekmjoenppaaaGreatDoor

/- What a lifting proof wants of a program whose rows list variables: the wrap that hands on the world's shape and the reach beside what is laid; the library's own variable. No condition. -/
namespace Go.Proofs.YtffekmjoenppaaaGreatDoor
open Go.ChangeShapes Go.WideShapes Go.ChangeAt Go.RowKit Go.Deep

theorem own : ownKnob Tryz.prog.godebug = none := by kernel_rfl
theorem laidOut : laidOutB Tryz.prog = true := by kernel_rfl
section
variable {H : Type} {enc : TypeId × Value → H}
/-- The wrap: what is laid, the reach and the world's shape, all handed on. -/
theorem returns_laid_shaped {a : Assume} {C : Checked} {os : Os} {f : FuncId} {fn : Func} {s : ChangeSpec} {conds : List PathCond} {apart fresh handsOn again : Bool} {X : World → Array Value → Prop}
    (hX : ∀ (w w' : World) (args : Array Value), w.heap = w'.heap → X w args → X w' args)
    (own : ownKnob C.prog.godebug = none) (started : os.Started) (noInit : C.prog.inits.idxOf? f = none) (hfn : C.prog.funcs[f]? = some fn)
    (witness : ∃ (w : World) (tape : Tape) (i : Input), w.os = os ∧ (w.forCall tape i).Shaped C.prog ∧ i.vars = [] ∧ Input.okWide C.prog (w.forCall tape i) .any w.heap.size f i ∧
      ((s.pre enc C.prog fn conds apart (w.forCall tape i).memory i.args ∧ X (w.forCall tape i).memory i.args) ∧ sizedMet enc C.prog fn (OpenSpec.ofChange s) apart (w.forCall tape i).memory i.args) ∧ a.holds C.prog (lone (Frame.enter C.prog f i.args .normal) [] (w.forCall tape i)))
    (contract : ∀ (W : World) (base : Nat) (args : Array Value) (ds gs : List (DataW H)) (before : List MemPlace),
      (∀ (j : Nat) t v, fn.params[j]? = some t → args[j]? = some v → Value.okWide C.prog W .any base t v) →
      DataW.Whole enc C.prog fn.params.toList s.vars apart W args.toList ds gs before →
      (DataW.weightsEach C.prog (fn.params.toList ++ s.plain.varTypes C.prog) (ds ++ gs)).all (· ≤ reachBytes) = true →
      W.ShapedOpen C.prog → X W args →
      Calls C.prog f args W fun e W' => ∃ v, e = .returned v ∧ s.post enc C.prog fn apart fresh handsOn again W args v W') :
    ReturnsInHanded a C os f .any (fun w args => (s.pre enc C.prog fn conds apart w args ∧ X w args) ∧ sizedMet enc C.prog fn (OpenSpec.ofChange s) apart w args) (s.post enc C.prog fn apart fresh handsOn again) := by
  refine returnsInHanded_of_calls own started noInit witness ?_
  intro w tape i _ hsh _ hok hpre hholds
  obtain ⟨_, _, _, fn', hfn', _, _, _, _, hval⟩ := hok
  have e : fn' = fn := Option.some.inj (hfn'.symm.trans hfn)
  subst e
  obtain ⟨⟨⟨ds, gs, before, hw, hc⟩, hx⟩, hz⟩ := hpre
  have hw' := DataW.Whole.of_heap (w' := w.forCall tape i) (by rfl) hw
  refine (contract (w.forCall tape i) w.heap.size i.args ds gs before hval hw' (hz.weights hw) hsh (hX _ _ _ (by rfl) hx)).mono fun e W' ⟨v, he, hp⟩ => ?_
  subst he
  exact ChangeSpec.post_blind hp
end
theorem ml_of_shaped {W : World} (h : W.ShapedOpen Tryz.prog) : Ml W :=
  cell_of_shapedOpen_int (t := 3) (zero := #[.int .i64 0]) h (of_decide_eq_true (by kernel_rfl)) (by kernel_rfl) rfl (by kernel_rfl) (by kernel_rfl) Tryz.underlying3
end Go.Proofs.YtffekmjoenppaaaGreatDoor

/- Contracts of the methods of table.Table[*shyard/gate.desc] that walk no other. Conditions: each contract's own premises. -/
namespace Go.Proofs.YtffekmjoenppaaaGreatDoor
open Go.RowKit

def TSt : Type := Nat → Option (Nat × Bool)
def tptrOf (o : Option (Nat × Bool)) (b : Nat) : Value := match o with | none => .pointer none | some _ => .pointer (some ⟨b, 0, none⟩)

/-- A table lies in block t, what number i has in block p i; S: its own blocks, and all that are new. -/
structure TabF (w : World) (t : Nat) (p : Nat → Nat) (st : TSt) (S : Nat → Prop) (cs : Array Value) : Prop where
  hb : w.heap[t]? = some (.cells cs 95 (0, 0))
  hcs : cs.size = 32
  hc : ∀ i, i < 32 → cs[i]? = some (tptrOf (st i) (p i))
  hs : ∀ i x m, i < 32 → st i = some (x, m) → w.heap[p i]? = some (.cells #[.pointer (some ⟨x, 0, none⟩), .bool m] 112 (0, 0))
  inj : ∀ i j, i < 32 → j < 32 → (st i).isSome = true → (st j).isSome = true → p i = p j → i = j
  hne : ∀ i, i < 32 → (st i).isSome = true → p i ≠ t
  own : S t
  owns : ∀ i, i < 32 → (st i).isSome = true → S (p i)
  up : ∀ k, w.heap.size ≤ k → S k

def TabAt (w : World) (t : Nat) (st : TSt) (S : Nat → Prop) : Prop := ∃ p cs, TabF w t p st S cs
def inB (fd : Int) : Bool := decide (0 ≤ fd) && decide (fd < 32)
def TSt.set (st : TSt) (fd : Nat) (o : Option (Nat × Bool)) : TSt := fun i => if i = fd then o else st i

theorem TabF.frame {w w' : World} {t : Nat} {p : Nat → Nat} {st : TSt} {S S' : Nat → Prop} {cs : Array Value} (h : TabF w t p st S cs) (hf : Fr S' w w') (hd : ∀ k, k < w.heap.size → S k → ¬ S' k) : TabF w' t p st S cs where
  hb := hf.get h.hb (hd _ (blk_lt h.hb) h.own)
  hcs := h.hcs
  hc := h.hc
  hs i x m hi e := hf.get (h.hs i x m hi e) (hd _ (blk_lt (h.hs i x m hi e)) (h.owns i hi (by simp [e])))
  inj := h.inj
  hne := h.hne
  own := h.own
  owns := h.owns
  up k hk := h.up k (Nat.le_trans hf.size hk)
theorem TabAt.frame {w w' : World} {t : Nat} {st : TSt} {S S' : Nat → Prop} (h : TabAt w t st S) (hf : Fr S' w w') (hd : ∀ k, k < w.heap.size → S k → ¬ S' k) : TabAt w' t st S := by
  obtain ⟨p, cs, h⟩ := h
  exact ⟨p, cs, h.frame hf hd⟩
theorem TabF.ext {w : World} {t : Nat} {p : Nat → Nat} {st st' : TSt} {S : Nat → Prop} {cs : Array Value} (h : TabF w t p st S cs) (he : ∀ i, i < 32 → st' i = st i) : TabF w t p st' S cs where
  hb := h.hb
  hcs := h.hcs
  hc i hi := by rw [he i hi]; exact h.hc i hi
  hs i x m hi e := h.hs i x m hi (by rw [← he i hi]; exact e)
  inj i j hi hj a b := h.inj i j hi hj (by rw [← he i hi]; exact a) (by rw [← he j hj]; exact b)
  hne i hi a := h.hne i hi (by rw [← he i hi]; exact a)
  own := h.own
  owns i hi a := h.owns i hi (by rw [← he i hi]; exact a)
  up := h.up

/-- A number is free. -/
theorem TabF.cut {w : World} {t : Nat} {p : Nat → Nat} {st : TSt} {S : Nat → Prop} {cs : Array Value} (h : TabF w t p st S cs) (fd : Nat) (hfd : fd < 32) : TabF (w.setCell ⟨t, fd, none⟩ (.pointer none)) t p (st.set fd none) S (cs.setIfInBounds fd (.pointer none)) where
  hb := blk_set h.hb _ _
  hcs := by simp [h.hcs]
  hc i hi := by
    by_cases e : i = fd
    · subst e; simp [TSt.set, h.hcs, hi, tptrOf]
    · rw [Array.getElem?_setIfInBounds_ne (Ne.symm e), h.hc i hi]; simp [TSt.set, e]
  hs i x m hi e := by
    by_cases e1 : i = fd
    · simp [TSt.set, e1] at e
    · have e2 : st i = some (x, m) := by simpa [TSt.set, e1] using e
      exact blk_set_other (h.hs i x m hi e2) _ _ (h.hne i hi (by simp [e2]))
  inj i j hi hj a b := h.inj i j hi hj (by by_cases e : i = fd <;> simp_all [TSt.set]) (by by_cases e : j = fd <;> simp_all [TSt.set])
  hne i hi a := h.hne i hi (by by_cases e : i = fd <;> simp_all [TSt.set])
  own := h.own
  owns i hi a := h.owns i hi (by by_cases e : i = fd <;> simp_all [TSt.set])
  up k hk := h.up k (by simpa using hk)
/-- A number has a new thing. -/
theorem TabF.put {w : World} {t : Nat} {p : Nat → Nat} {st : TSt} {S : Nat → Prop} {cs : Array Value} (h : TabF w t p st S cs) (fd : Nat) (hfd : fd < 32) (b : Nat) (hS : S b) (hbt : b ≠ t) (hp : ∀ i, i < 32 → i ≠ fd → (st i).isSome = true → p i ≠ b) (x : Nat) (m : Bool) (hx : w.heap[b]? = some (.cells #[.pointer (some ⟨x, 0, none⟩), .bool m] 112 (0, 0))) :
    TabF (w.setCell ⟨t, fd, none⟩ (.pointer (some ⟨b, 0, none⟩))) t (fun i => if i = fd then b else p i) (st.set fd (some (x, m))) S (cs.setIfInBounds fd (.pointer (some ⟨b, 0, none⟩))) where
  hb := blk_set h.hb _ _
  hcs := by simp [h.hcs]
  hc i hi := by
    by_cases e : i = fd
    · subst e; simp [TSt.set, h.hcs, hi, tptrOf]
    · rw [Array.getElem?_setIfInBounds_ne (Ne.symm e), h.hc i hi]; simp [TSt.set, e]
  hs i y n hi e := by
    by_cases e1 : i = fd
    · simp [TSt.set, e1] at e
      obtain ⟨rfl, rfl⟩ := e
      rw [if_pos e1]
      exact blk_set_other hx _ _ hbt
    · have e2 : st i = some (y, n) := by simpa [TSt.set, e1] using e
      rw [if_neg e1]
      exact blk_set_other (h.hs i y n hi e2) _ _ (h.hne i hi (by simp [e2]))
  inj i j hi hj a c e := by
    by_cases e1 : i = fd <;> by_cases e2 : j = fd <;> simp only [e1, e2, if_true, if_false, TSt.set] at a c e ⊢
    · exact absurd e.symm (hp j hj e2 c)
    · exact absurd e (hp i hi e1 a)
    · exact h.inj i j hi hj a c e
  hne i hi a := by
    by_cases e1 : i = fd
    · rw [if_pos e1]; exact hbt
    · rw [if_neg e1]; exact h.hne i hi (by simpa [TSt.set, e1] using a)
  own := h.own
  owns i hi a := by
    by_cases e1 : i = fd
    · rw [if_pos e1]; exact hS
    · rw [if_neg e1]; exact h.owns i hi (by simpa [TSt.set, e1] using a)
  up k hk := h.up k (by simpa using hk)
/-- A new thing in a block of its own. -/
theorem TabF.putNew {w w1 : World} {t : Nat} {p : Nat → Nat} {st : TSt} {S : Nat → Prop} {cs : Array Value} (h : TabF w t p st S cs) (fd : Nat) (hfd : fd < 32) (x : Nat) (m : Bool)
    (hw : w1 = w.alloc (.cells #[.pointer (some ⟨x, 0, none⟩), .bool m] 112 (0, 0))) : TabAt (w1.setCell ⟨t, fd, none⟩ (.pointer (some ⟨w.heap.size, 0, none⟩))) t (st.set fd (some (x, m))) S := by
  subst hw
  have h1 := h.frame ((Fr.refl (fun _ => False) w).alloc (.cells #[.pointer (some ⟨x, 0, none⟩), .bool m] 112 (0, 0))) (fun _ _ _ e => e)
  refine ⟨_, _, h1.put fd hfd w.heap.size (h.up _ (Nat.le_refl _)) (by have := blk_lt h.hb; omega) ?_ x m (blk_new _ _)⟩
  intro i hi _ hsome e
  obtain ⟨⟨y, n⟩, hy⟩ := Option.isSome_iff_exists.1 hsome
  have := blk_lt (h.hs i y n hi hy)
  omega
/-- What a number has is marked. -/
theorem TabF.mark {w : World} {t : Nat} {p : Nat → Nat} {st : TSt} {S : Nat → Prop} {cs : Array Value} (h : TabF w t p st S cs) (fd : Nat) (hfd : fd < 32) (x : Nat) (m0 m : Bool) (hst : st fd = some (x, m0)) :
    TabF (w.setCell ⟨p fd, 1, none⟩ (.bool m)) t p (st.set fd (some (x, m))) S cs where
  hb := blk_set_other h.hb _ _ (h.hne fd hfd (by simp [hst])).symm
  hcs := h.hcs
  hc i hi := by
    by_cases e : i = fd
    · subst e; rw [h.hc i hi]; simp [TSt.set, hst, tptrOf]
    · rw [h.hc i hi]; simp [TSt.set, e]
  hs i y n hi e := by
    by_cases e1 : i = fd
    · simp [TSt.set, e1] at e
      obtain ⟨rfl, rfl⟩ := e
      rw [e1, blk_set (h.hs fd x m0 hfd hst)]; simp
    · have e2 : st i = some (y, n) := by simpa [TSt.set, e1] using e
      exact blk_set_other (h.hs i y n hi e2) _ _ (fun e3 => e1 (h.inj i fd hi hfd (by simp [e2]) (by simp [hst]) e3))
  inj i j hi hj a b := h.inj i j hi hj (by by_cases e : i = fd <;> simp_all [TSt.set]) (by by_cases e : j = fd <;> simp_all [TSt.set])
  hne i hi a := h.hne i hi (by by_cases e : i = fd <;> simp_all [TSt.set])
  own := h.own
  owns i hi a := h.owns i hi (by by_cases e : i = fd <;> simp_all [TSt.set])
  up k hk := h.up k (by simpa using hk)

theorem in_any (fd : Int) (w : World) : Calls Tryz.prog 42 #[.int .i64 fd] w fun e w' => e = .returned (.bool (inB fd)) ∧ w = w' := by
  go_enter Tryz.func42, Tryz.ntmps42
  by_cases h1 : 0 ≤ fd
  · by_cases h2 : fd < 32
    · go_wp2
      go_ret
      exact ⟨by simp [inB, h1, h2], rfl⟩
    · go_wp2
      go_ret
      exact ⟨by simp [inB, h1, h2], rfl⟩
  · go_wp2
    go_ret
    exact ⟨by simp [inB]; omega, rfl⟩
theorem new_any (w : World) : Calls Tryz.prog 10 #[] w fun e w' => e = .returned (.pointer (some ⟨w.heap.size, 0, none⟩)) ∧ w' = w.alloc (.cells (Array.replicate 32 (.pointer none)) 95 (0, 0)) := by
  go_enter Tryz.func10, Tryz.ntmps10
  go_wp2
  go_ret
  exact ⟨rfl, rfl⟩
theorem TabF.new (w : World) (S : Nat → Prop) (hS : ∀ k, w.heap.size ≤ k → S k) (w' : World) (hw : w' = w.alloc (.cells (Array.replicate 32 (.pointer none)) 95 (0, 0))) : TabAt w' w.heap.size (fun _ => none) S := by
  subst hw
  exact ⟨fun _ => 0, _, blk_new _ _, by simp, fun i hi => by simp [hi, tptrOf], by simp, by simp, by simp, hS _ (Nat.le_refl _), by simp, fun k hk => hS k (by simp at hk; omega)⟩
theorem at_in (w : World) (t : Nat) (p : Nat → Nat) (st : TSt) (S : Nat → Prop) (cs : Array Value) (h : TabF w t p st S cs) (fd : Nat) (hfd : fd < 32) :
    Calls Tryz.prog 39 #[.pointer (some ⟨t, 0, none⟩), .int .i64 fd] w fun e w' => e = .returned (tptrOf (st fd) (p fd)) ∧ w = w' := by
  have hc : w.cell? ⟨t, fd, none⟩ = some (tptrOf (st fd) (p fd)) := by rw [blk_cell h.hb]; exact h.hc fd hfd
  go_enter Tryz.func39, Tryz.ntmps39
  go_wp2_with fail
  refine (in_any fd w).mono ?_
  rintro e w' ⟨rfl, rfl⟩
  have hi : inB fd = true := by simp [inB]; omega
  rw [hi]
  go_wp2
  go_ret
  exact ⟨rfl, rfl⟩
theorem at_out (w : World) (t : Nat) (fd : Int) (hi : inB fd = false) :
    Calls Tryz.prog 39 #[.pointer (some ⟨t, 0, none⟩), .int .i64 fd] w fun e w' => e = .returned (.pointer none) ∧ w = w' := by
  go_enter Tryz.func39, Tryz.ntmps39
  go_wp2_with fail
  refine (in_any fd w).mono ?_
  rintro e w' ⟨rfl, rfl⟩
  rw [hi]
  go_wp2
  go_ret
  exact ⟨rfl, rfl⟩
theorem at_nil (w : World) (fd : Int) :
    Calls Tryz.prog 39 #[.pointer none, .int .i64 fd] w fun e w' => e = .returned (.pointer none) ∧ w = w' := by
  go_enter Tryz.func39, Tryz.ntmps39
  go_wp2
  go_ret
  exact ⟨rfl, rfl⟩
end Go.Proofs.YtffekmjoenppaaaGreatDoor

/- Contracts of the methods of table.Table[*shyard/gate.desc]. Conditions: each contract's own premises. -/
namespace Go.Proofs.YtffekmjoenppaaaGreatDoor
open Go.RowKit

/-- What number fd has. -/
def TSt.at (st : TSt) (fd : Int) : Option (Nat × Bool) := if inB fd = true then st fd.toNat else none
def getV (o : Option (Nat × Bool)) : Value := match o with | none => .tuple #[.pointer none, .int .i64 9] | some (x, _) => .tuple #[.pointer (some ⟨x, 0, none⟩), .int .i64 0]

theorem at_out' {st : TSt} {fd : Int} (h : inB fd = false) : st.at fd = none := by simp [TSt.at, h]
theorem at_in' {st : TSt} {fd : Nat} (h : fd < 32) : st.at fd = st fd := by
  have : inB (fd : Int) = true := by simp [inB]; omega
  simp [TSt.at, this]
theorem inB_nat {fd : Int} (h : inB fd = true) : ∃ n : Nat, fd = n ∧ n < 32 := by
  simp [inB] at h
  exact ⟨fd.toNat, by omega, by omega⟩

theorem get_any (w : World) (t : Nat) (st : TSt) (S : Nat → Prop) (ht : TabAt w t st S) (fd : Int) :
    Calls Tryz.prog 84 #[.pointer (some ⟨t, 0, none⟩), .int .i64 fd] w fun e w' => e = .returned (getV (st.at fd)) ∧ w = w' := by
  obtain ⟨p, cs, ht⟩ := ht
  cases hi : inB fd with
  | false =>
    go_enter Tryz.func84, Tryz.ntmps84
    go_wp2_with fail
    refine (at_out w t fd hi).mono ?_
    rintro e w' ⟨rfl, rfl⟩
    go_wp2
    go_ret2
    exact ⟨by rw [at_out' hi]; rfl, rfl⟩
  | true =>
    obtain ⟨n, rfl, hn⟩ := inB_nat hi
    rw [at_in' hn]
    go_enter Tryz.func84, Tryz.ntmps84
    go_wp2_with fail
    refine (at_in w t p st S cs ht n hn).mono ?_
    rintro e w' ⟨rfl, rfl⟩
    rcases hst : st n with _ | ⟨x, m⟩
    · simp only [tptrOf]
      go_wp2
      go_ret2
      exact ⟨by rw [hst]; rfl, rfl⟩
    · have hc : w.cell? ⟨p n, 0, none⟩ = some (.pointer (some ⟨x, 0, none⟩)) := by rw [blk_cell (ht.hs n x m hn hst)]; rfl
      simp only [tptrOf]
      go_wp2
      go_ret2
      exact ⟨by rw [hst]; rfl, rfl⟩
/-- What Mark, Cut, Set leave. -/
def MarkPost (w : World) (t : Nat) (st : TSt) (S : Nat → Prop) (fd : Int) (m : Bool) (e : Ending) (w' : World) : Prop :=
  match st.at fd with
  | none => e = .returned (.int .i64 9) ∧ w = w'
  | some (x, _) => e = .returned (.int .i64 0) ∧ TabAt w' t (st.set fd.toNat (some (x, m))) S ∧ Fr S w w'
theorem mark_any (w : World) (t : Nat) (st : TSt) (S : Nat → Prop) (ht : TabAt w t st S) (fd : Int) (m : Bool) :
    Calls Tryz.prog 79 #[.pointer (some ⟨t, 0, none⟩), .int .i64 fd, .bool m] w (MarkPost w t st S fd m) := by
  obtain ⟨p, cs, ht⟩ := ht
  cases hi : inB fd with
  | false =>
    go_enter Tryz.func79, Tryz.ntmps79
    go_wp2_with fail
    refine (at_out w t fd hi).mono ?_
    rintro e w' ⟨rfl, rfl⟩
    go_wp2
    go_ret
    simp only [MarkPost, at_out' hi]
    exact ⟨rfl, trivial⟩
  | true =>
    obtain ⟨n, rfl, hn⟩ := inB_nat hi
    go_enter Tryz.func79, Tryz.ntmps79
    go_wp2_with fail
    refine (at_in w t p st S cs ht n hn).mono ?_
    rintro e w' ⟨rfl, rfl⟩
    rcases hst : st n with _ | ⟨x, m0⟩
    · simp only [tptrOf]
      go_wp2
      go_ret
      simp only [MarkPost, at_in' hn, hst]
      exact ⟨rfl, trivial⟩
    · have hc : w.cell? ⟨p n, 1, none⟩ = some (.bool m0) := by rw [blk_cell (ht.hs n x m0 hn hst)]; rfl
      have hf := blk_frozen (ht.hs n x m0 hn hst)
      simp only [tptrOf]
      go_wp2
      go_ret
      simp only [MarkPost, at_in' hn, hst]
      exact ⟨rfl, ⟨_, _, by simpa using ht.mark n hn x m0 m hst⟩, (Fr.refl _ _).setCell (.inl (ht.owns n hn (by simp [hst]))) _⟩
def TCutPost (w : World) (t : Nat) (st : TSt) (S : Nat → Prop) (fd : Int) (e : Ending) (w' : World) : Prop :=
  e = .returned (getV (st.at fd)) ∧ TabAt w' t (st.set fd.toNat (if inB fd = true then none else st fd.toNat)) S ∧ Fr S w w'
theorem cut_any (w : World) (t : Nat) (st : TSt) (S : Nat → Prop) (ht : TabAt w t st S) (fd : Int) :
    Calls Tryz.prog 77 #[.pointer (some ⟨t, 0, none⟩), .int .i64 fd] w (TCutPost w t st S fd) := by
  obtain ⟨p, cs, htf⟩ := id ht
  rcases hg : st.at fd with _ | ⟨x, m⟩
  · have hfin : TCutPost w t st S fd (.returned (.tuple #[.pointer none, .int .i64 9])) w := by
      refine ⟨by rw [hg]; rfl, ⟨p, cs, htf.ext ?_⟩, Fr.refl _ _⟩
      intro i _
      by_cases e : i = fd.toNat
      · simp only [TSt.at] at hg
        by_cases hi : inB fd = true
        · simp [hi] at hg; simp [TSt.set, e, hi, hg]
        · simp [TSt.set, e, hi]
      · simp [TSt.set, e]
    go_enter Tryz.func77, Tryz.ntmps77
    go_wp2_with fail
    refine (get_any w t st S ht fd).mono ?_
    rintro e w' ⟨rfl, rfl⟩
    rw [hg]
    simp only [getV]
    go_wp2
    go_ret2
    exact hfin
  · have hi : inB fd = true := by
      by_cases hi : inB fd = true
      · exact hi
      · simp [TSt.at, hi] at hg
    obtain ⟨n, rfl, hn⟩ := inB_nat hi
    have hc : w.cell? ⟨t, n, none⟩ = some (tptrOf (st n) (p n)) := by rw [blk_cell htf.hb]; exact htf.hc n hn
    have hf := blk_frozen htf.hb
    have hfin : TCutPost w t st S n (.returned (.tuple #[.pointer (some ⟨x, 0, none⟩), .int .i64 0])) (w.setCell ⟨t, n, none⟩ (.pointer none)) := by
      refine ⟨by rw [hg]; rfl, ⟨_, _, by simpa [hi] using htf.cut n hn⟩, (Fr.refl _ _).setCell (.inl htf.own) _⟩
    go_enter Tryz.func77, Tryz.ntmps77
    go_wp2_with fail
    refine (get_any w t st S ht n).mono ?_
    rintro e w' ⟨rfl, rfl⟩
    rw [hg]
    simp only [getV]
    clear ht hg
    go_wp2
    go_ret2
    exact hfin
def setV (o : Option (Nat × Bool)) : Value := match o with | none => .tuple #[.pointer none, .bool false, .int .i64 0] | some (x, _) => .tuple #[.pointer (some ⟨x, 0, none⟩), .bool true, .int .i64 0]
def SetPost (w : World) (t : Nat) (st : TSt) (S : Nat → Prop) (fd : Int) (x : Nat) (e : Ending) (w' : World) : Prop :=
  (inB fd = false ∧ e = .returned (.tuple #[.pointer none, .bool false, .int .i64 9]) ∧ w = w') ∨
  (inB fd = true ∧ e = .returned (setV (st fd.toNat)) ∧ TabAt w' t (st.set fd.toNat (some (x, false))) S ∧ Fr S w w')
theorem set_any (w : World) (t : Nat) (st : TSt) (S : Nat → Prop) (ht : TabAt w t st S) (fd : Int) (x : Nat) :
    Calls Tryz.prog 58 #[.pointer (some ⟨t, 0, none⟩), .int .i64 fd, .pointer (some ⟨x, 0, none⟩)] w (SetPost w t st S fd x) := by
  obtain ⟨p, cs, htf⟩ := ht
  cases hi : inB fd with
  | false =>
    go_enter Tryz.func58, Tryz.ntmps58
    go_wp2_with fail
    refine (in_any fd w).mono ?_
    rintro e w' ⟨rfl, rfl⟩
    rw [hi]
    go_wp2
    go_ret3
    exact .inl ⟨hi, rfl, rfl⟩
  | true =>
    obtain ⟨n, rfl, hn⟩ := inB_nat hi
    have hc : w.cell? ⟨t, n, none⟩ = some (tptrOf (st n) (p n)) := by rw [blk_cell htf.hb]; exact htf.hc n hn
    have hf := blk_frozen htf.hb
    have hbt := blk_lt htf.hb
    have hnew := htf.putNew n hn x false rfl
    have hfin : ∀ v, v = setV (st n) → SetPost w t st S n x (.returned v) ((w.alloc (.cells #[.pointer (some ⟨x, 0, none⟩), .bool false] 112 (0, 0))).setCell ⟨t, n, none⟩ (.pointer (some ⟨w.heap.size, 0, none⟩))) :=
      fun v hv => .inr ⟨hi, by rw [hv]; rfl, by simpa using hnew, ((Fr.refl _ _).alloc _).setCell (.inl htf.own) _⟩
    rw [World.setCell_alloc_past _ _ _ _ hbt] at hfin
    have hfin := hide hfin
    clear hnew
    go_enter Tryz.func58, Tryz.ntmps58
    go_wp2_with fail
    refine (in_any n w).mono ?_
    rintro e w' ⟨rfl, rfl⟩
    rw [hi]
    rcases hst : st n with _ | ⟨x0, m0⟩
    · rw [hst] at hc
      simp only [tptrOf] at hc
      go_wp2
      go_ret3
      refine hfin.out _ ?_
      rw [hst]; rfl
    · rw [hst] at hc
      simp only [tptrOf] at hc
      have hb1 := htf.hs n x0 m0 hn hst
      have hc1 : w.cell? ⟨p n, 0, none⟩ = some (.pointer (some ⟨x0, 0, none⟩)) := by rw [blk_cell hb1]; rfl
      have hlt := blk_lt hb1
      have hne := htf.hne n hn (by simp [hst])
      go_wp2
      go_ret3
      refine hfin.out _ ?_
      rw [hst]; rfl
/-- The first free number from k on, of n. -/
def ff (st : TSt) (k : Nat) : Nat → Option Nat
  | 0 => none
  | n + 1 => if (st k).isSome then ff st (k + 1) n else some k
def firstFree (st : TSt) (least : Nat) : Option Nat := ff st least (32 - least)
theorem ff_skip (st : TSt) : ∀ (n k m : Nat), (∀ j, k ≤ j → j < k + n → (st j).isSome = true) → ff st k (n + m) = ff st (k + n) m
  | 0, k, m, _ => by simp
  | n + 1, k, m, h => by
    rw [show n + 1 + m = (n + m) + 1 by omega, ff, if_pos (h k (Nat.le_refl _) (by omega)), ff_skip st n (k + 1) m (fun j h1 h2 => h j (by omega) (by omega))]
    congr 1; omega
theorem firstFree_none {st : TSt} {l : Nat} (h : ∀ j, l ≤ j → j < 32 → (st j).isSome = true) : firstFree st l = none := by
  unfold firstFree
  have := ff_skip st (32 - l) l 0 (fun j h1 h2 => h j h1 (by omega))
  simpa [ff] using this
theorem firstFree_some {st : TSt} {l k : Nat} (hl : l ≤ k) (hk : k < 32) (h : ∀ j, l ≤ j → j < k → (st j).isSome = true) (hn : st k = none) : firstFree st l = some k := by
  unfold firstFree
  have := ff_skip st (k - l) l (32 - k) (fun j h1 h2 => h j h1 (by omega))
  rw [show k - l + (32 - k) = 32 - l by omega, show l + (k - l) = k by omega] at this
  rw [this, show 32 - k = (32 - k - 1) + 1 by omega, ff, if_neg (by simp [hn])]
def PutTPost (w : World) (t : Nat) (st : TSt) (S : Nat → Prop) (x : Nat) (least : Int) (e : Ending) (w' : World) : Prop :=
  (inB least = false ∧ e = .returned (.tuple #[.int .i64 0, .int .i64 22]) ∧ w = w') ∨
  (inB least = true ∧ firstFree st least.toNat = none ∧ e = .returned (.tuple #[.int .i64 0, .int .i64 24]) ∧ w = w') ∨
  (inB least = true ∧ ∃ k : Nat, k < 32 ∧ firstFree st least.toNat = some k ∧ e = .returned (.tuple #[.int .i64 k, .int .i64 0]) ∧ TabAt w' t (st.set k (some (x, false))) S ∧ Fr S w w')
def PutTRel (w : World) (l : Nat) (st : TSt) (i : Value) (wr : World) : Prop :=
  ∃ k : Nat, i = .int .i64 k ∧ l ≤ k ∧ k ≤ 32 ∧ (∀ j, l ≤ j → j < k → (st j).isSome = true) ∧ wr = w
theorem putT_any (w : World) (t : Nat) (st : TSt) (S : Nat → Prop) (ht : TabAt w t st S) (x : Nat) (least : Int) :
    Calls Tryz.prog 21 #[.pointer (some ⟨t, 0, none⟩), .pointer (some ⟨x, 0, none⟩), .int .i64 least] w (PutTPost w t st S x least) := by
  obtain ⟨p, cs, htf⟩ := ht
  cases hi : inB least with
  | false =>
    go_enter Tryz.func21, Tryz.ntmps21
    go_wp2_with fail
    refine (in_any least w).mono ?_
    rintro e w' ⟨rfl, rfl⟩
    rw [hi]
    go_wp2
    go_ret2
    exact .inl ⟨hi, rfl, rfl⟩
  | true =>
    obtain ⟨l, rfl, hl⟩ := inB_nat hi
    go_enter Tryz.func21, Tryz.ntmps21
    go_wp2_with fail
    refine (in_any l w).mono ?_
    rintro e w' ⟨rfl, rfl⟩
    rw [hi]
    go_wp2
    go_loopw [8] (fun i wr => PutTRel w l st i wr) (fun i _ => 32 - (intOf i).toNat)
    case atStart => exact ⟨l, rfl, Nat.le_refl _, by omega, fun j h1 h2 => by omega, rfl⟩
    case round =>
      obtain ⟨k, rfl, hk1, hk2, hall, rfl⟩ := hrel
      by_cases h1 : k < 32
      · have hc : wr.cell? ⟨t, k, none⟩ = some (tptrOf (st k) (p k)) := by rw [blk_cell htf.hb]; exact htf.hc k h1
        have hf := blk_frozen htf.hb
        have hbt := blk_lt htf.hb
        have hall := hide hall
        rcases hst : st k with _ | ⟨x0, m0⟩
        · have hnew := htf.putNew k h1 x false rfl
          have hfin : PutTPost wr t st S x l (.returned (.tuple #[.int .i64 k, .int .i64 0])) ((wr.alloc (.cells #[.pointer (some ⟨x, 0, none⟩), .bool false] 112 (0, 0))).setCell ⟨t, k, none⟩ (.pointer (some ⟨wr.heap.size, 0, none⟩))) :=
            .inr (.inr ⟨hi, k, h1, firstFree_some hk1 h1 hall.out hst, rfl, hnew, ((Fr.refl _ _).alloc _).setCell (.inl htf.own) _⟩)
          rw [World.setCell_alloc_past _ _ _ _ hbt] at hfin
          have hfin := hide hfin
          clear hnew
          rw [hst] at hc
          simp only [tptrOf] at hc
          go_wp2
          go_ret2
          exact hfin.out
        · rw [hst] at hc
          simp only [tptrOf] at hc
          go_wp2
          go_roundw
          case rel =>
            refine ⟨k + 1, by go_num, by omega, by omega, fun j h2 h3 => ?_, rfl⟩
            by_cases e : j = k
            · rw [e, hst]; rfl
            · exact hall.out j h2 (by omega)
          case measure => simp [intOf]; omega
      · have e : k = 32 := by omega
        subst e
        have hfin : PutTPost wr t st S x l (.returned (.tuple #[.int .i64 0, .int .i64 24])) wr := .inr (.inl ⟨hi, firstFree_none hall, rfl, rfl⟩)
        have hfin := hide hfin
        clear hall
        go_wp2
        go_ret2
        exact hfin.out
end Go.Proofs.YtffekmjoenppaaaGreatDoor

/- What Exec lets go of, as plain data. No condition. -/
namespace Go.Proofs.YtffekmjoenppaaaGreatDoor
open Go.RowKit

theorem Tryz.info60 : (Tryz.prog.info? 60).map (fun i => (i.zero, i.size, i.bytes)) = some (some (.pointer none), 1, 8) := by kernel_rfl
theorem fr1 (w : World) (r i : Nat) (u : Value) : Fr (fun k => k = r) w (w.setCell ⟨r, i, none⟩ u) := (Fr.refl (fun k => k = r) w).setCell (p := ⟨r, i, none⟩) (.inl rfl) u
/-- What goes at number i. -/
def exAt (st : TSt) (i : Nat) : Option Nat := match st i with | some (x, true) => some x | _ => none
def exL (st : TSt) (k : Nat) : List Nat := (List.range k).filterMap (exAt st)
def exO (o : Option (Nat × Bool)) : Option (Nat × Bool) := match o with | some (_, true) => none | o => o
def exSt (st : TSt) (k : Nat) : TSt := fun i => if i < k then exO (st i) else st i
theorem exSt_eq (st : TSt) (k i : Nat) : exSt st k i = if i < k then exO (st i) else st i := rfl
theorem set_eq (st : TSt) (k i : Nat) (o : Option (Nat × Bool)) : st.set k o i = if i = k then o else st i := rfl
def ptrs (l : List Nat) : List Value := l.map fun x => .pointer (some ⟨x, 0, none⟩)
theorem exL_succ (st : TSt) (k : Nat) : exL st (k + 1) = exL st k ++ (exAt st k).toList := by
  unfold exL
  rw [List.range_succ, List.filterMap_append]
  cases h : exAt st k <;> simp [h]
theorem exL_le (st : TSt) (k : Nat) : (exL st k).length ≤ k := by
  have := List.length_filterMap_le (exAt st) (List.range k)
  simpa [exL] using this
theorem exO_same {st : TSt} {k : Nat} (h : exAt st k = none) : exO (st k) = st k := by
  unfold exAt at h
  unfold exO
  split <;> simp_all
theorem exSt_same {st : TSt} {k : Nat} (h : exAt st k = none) : exSt st (k + 1) = exSt st k := by
  funext i
  rw [exSt_eq, exSt_eq]
  by_cases h1 : i < k
  · rw [if_pos h1, if_pos (by omega)]
  · by_cases h2 : i < k + 1
    · have : i = k := by omega
      subst this
      rw [if_neg h1, if_pos h2, exO_same h]
    · rw [if_neg h1, if_neg h2]
theorem exSt_cut {st : TSt} {k : Nat} {x : Nat} (h : st k = some (x, true)) : exSt st (k + 1) = (exSt st k).set k none := by
  funext i
  rw [exSt_eq, set_eq, exSt_eq]
  by_cases h1 : i < k
  · rw [if_pos h1, if_pos (by omega), if_neg (by omega)]
  · by_cases h2 : i < k + 1
    · have : i = k := by omega
      subst this
      rw [if_pos h2, if_pos rfl, h]
      rfl
    · rw [if_neg h1, if_neg h2, if_neg (by omega)]
theorem exSt_zero (st : TSt) : exSt st 0 = st := by funext i; rw [exSt_eq, if_neg (by omega)]
theorem exSt_at (st : TSt) (k : Nat) : exSt st k k = st k := by rw [exSt_eq, if_neg (by omega)]

end Go.Proofs.YtffekmjoenppaaaGreatDoor
