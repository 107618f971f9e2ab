/- files.way.over. Conditions: the contract's own premises. -/
import Derived.Test.YthikjdpnlahkfaaGreatDoorFilesA
import Derived.Deep.CutBlock
import Derived.Deep.DeepCutAuto
namespace Go.Proofs.YthikjdpnlahkfaaGreatDoor
open Go.RowKit

theorem overS_append (σ : FSt) : ∀ (x y : List (List UInt8)) (a : Nat), overS σ (x ++ y) a = if (overS σ x a).1 ≠ 0 then overS σ x a else overS σ y (overS σ x a).2
  | [], y, a => by simp [overS]
  | c :: x, y, a => by
    by_cases h : (stepS σ a c).1 = 0
    · simp [overS, h, overS_append σ x y]
    · simp [overS, h]
theorem over_next {σ : FSt} {l : List (List UInt8)} {k a a0 : Nat} (hk : k < l.length) (h : overS σ (l.take k) a0 = (0, a)) (hs : (stepS σ a l[k]).1 = 0) : overS σ (l.take (k + 1)) a0 = (0, (stepS σ a l[k]).2) := by
  rw [List.take_succ_eq_append_getElem hk, overS_append, h, if_neg (by simp)]
  simp only [overS]
  rw [if_neg (by simp [hs])]
theorem over_err {σ : FSt} {l : List (List UInt8)} {k m a a0 : Nat} (hk : k < m) (hm : m ≤ l.length) (h : overS σ (l.take k) a0 = (0, a)) (hs : (stepS σ a (l[k]'(by omega))).1 ≠ 0) : overS σ (l.take m) a0 = stepS σ a (l[k]'(by omega)) := by
  have e : l.take m = l.take k ++ (l[k]'(by omega) :: (l.take m).drop (k + 1)) := by
    have h1 := (List.take_append_drop (k + 1) (l.take m)).symm
    rw [List.take_take, Nat.min_eq_left (by omega), List.take_succ_eq_append_getElem (by omega : k < l.length), List.append_assoc] at h1
    exact h1
  rw [e, overS_append, h, if_neg (by simp)]
  simp only [overS]
  rw [if_pos hs]
/-- Where a step leads is there. -/
theorem Live.step {σ : FSt} (h : Live σ) {a : Nat} (ha : (σ.nd a).isSome = true) (q : List UInt8) : (σ.nd (stepS σ a q).2).isSome = true := by
  unfold stepS
  cases hn : σ.nd a with
  | none => rw [hn] at ha; cases ha
  | some n =>
    simp only
    unfold stepE
    split
    · simp only; rw [hn]; rfl
    · split
      · simp only; rw [hn]; rfl
      · split
        · split
          · simp only; rw [hn]; rfl
          · rename_i h1 _ _ h2
            refine h.par a n hn ?_ (by omega)
            unfold hereE at h1
            cases hd : n.d with
            | true => rfl
            | false => rw [hd] at h1; simp at h1
        · split
          · simp only; rw [hn]; rfl
          · cases hk : kget q n.ents with
            | none => simp only [leadE]; rw [hn]; rfl
            | some k => exact h.ents a n hn _ (kget_mem hk)
def OverRel (σ : FSt) (p : Nat → Nat) (l : List (List UInt8)) (m a0 b : Nat) (sv : Value) (sl : Bool) (w : World) (gk : Nat) (i : Value) (wr : World) : Prop :=
  ∃ k a : Nat, gk + k = m ∧ i = .int .i64 k ∧ overS σ (l.take k) a0 = (0, a) ∧ (σ.nd a).isSome = true ∧ wayB wr b (p a) sv sl ∧ Fr (fun k => k = b) w wr
def OverPost (σ : FSt) (p : Nat → Nat) (l : List (List UInt8)) (a0 b : Nat) (sv : Value) (sl : Bool) (w : World) (e : Ending) (w' : World) : Prop :=
  e = .returned (.int .i64 (overS σ l a0).1) ∧ (σ.nd (overS σ l a0).2).isSome = true ∧ wayB w' b (p (overS σ l a0).2) sv sl ∧ Fr (fun k => k = b) w w'
set_option maxRecDepth 100000 in
set_option maxHeartbeats 8000000 in
theorem over_any (w : World) (f : Nat) (σ : FSt) (S : Nat → Prop) (p : Nat → Nat) (h : FilesAt w f σ S p) (b a0 : Nat) (l : List ByteArray) (sv : Value) (sl : Bool) (S' : Nat → Prop) (hl : ArgsV w S' sv l) (hb' : ¬ S' b) (hb : ¬ S b)
    (hw : wayB w b (p a0) sv sl) (ha0 : (σ.nd a0).isSome = true) (m : Nat) (hm : m ≤ l.length) (hl200 : l.length ≤ 1000) (hsz : ∀ s ∈ l, s.size ≤ 1000) :
    Calls Tryz.prog 89 #[.pointer (some ⟨b, 0, none⟩), .int .i64 m] w (OverPost σ p ((l.map (·.data.toList)).take m) a0 b sv sl w) := by
  obtain ⟨la, lc, rfl⟩ := hl.form
  obtain ⟨_, hlc, hcells⟩ := hl.at
  have hch := cut_highS (a := la) hm hlc
  have c1 : w.cell? ⟨b, 1, none⟩ = some (.slice la l.length lc) := by rw [blk_cell hw]; rfl
  have Hcells := hide hcells
  have Hl := hide hl
  have Hsz := hide hsz
  clear hcells hl hsz
  go_enter Tryz.func89, Tryz.ntmps89
  go_wp2_with fail
  go_loopg [16] m (fun gk i wr => OverRel σ p (l.map (·.data.toList)) m a0 b (.slice la l.length lc) sl w gk i wr)
  case atStart => exact ⟨0, a0, by omega, rfl, rfl, ha0, hw, Fr.refl _ _⟩
  case round =>
    clear c1
    obtain ⟨k, a, hgk, rfl, hov, ha, hwr, hfr⟩ := hrel
    have Hgk := hide hgk
    have Hov := hide hov
    clear hgk hov
    by_cases hlt : k < m
    · have hkl : k < l.length := by omega
      have hkm : k < (l.map (·.data.toList)).length := by simpa using hkl
      obtain ⟨g, o, rfl, hc⟩ := Hcells.out.resolve_left (by omega)
      have ck := hc k hkl
      obtain ⟨a', cap', ea, _, _, hg⟩ := Hl.out
      cases ea
      have hgb : g ≠ b := by
        rcases hg with hg | ⟨g', o', hg, hS', _⟩
        · simp [hg] at hkl
        · cases hg; exact fun e => hb' (e ▸ hS')
      replace ck := (World.cell?_of_block (a := ⟨g, o + k, none⟩) (hfr.block g (World.block_lt_of_cell? _ _ ck) hgb)).trans ck
      have hqs := Hsz.out l[k] (List.getElem_mem hkl)
      have hfA := h.frame hfr (fun k _ e e2 => hb (e2 ▸ e))
      obtain ⟨n, hn⟩ := Option.isSome_iff_exists.1 ha
      obtain ⟨dvn, evn, pvn, hnd⟩ := hfA.node hn
      have hlive := hfA.live
      have hSa : S (p a) := by obtain ⟨_, _, _, _, h9⟩ := h; exact h9.ownn a ha
      have hne : p a ≠ b := fun e => hb (e ▸ hSa)
      have hstep : stepS σ a l[k].data.toList = stepE n a l[k].data.toList := by unfold stepS; rw [hn]
      have hgk2 : (l.map (·.data.toList))[k]'hkm = l[k].data.toList := by simp
      have herr := hide (show ∀ (ev : Int) (w' : World), ev ≠ 0 → stepE n a l[k].data.toList = (ev, a) → wayB w' b (p a) (.slice (some ⟨g, o, none⟩) l.length lc) sl → Fr (fun k => k = b) w w' → OverPost σ p ((l.map (·.data.toList)).take m) a0 b (.slice (some ⟨g, o, none⟩) l.length lc) sl w (.returned (.int .i64 ev)) w' from fun ev w' h1 h2 h3 h4 => by
        have e1 := over_err (σ := σ) hlt (by simpa using hm) Hov.out (by rw [hgk2, hstep, h2]; exact h1)
        rw [hgk2, hstep, h2] at e1
        unfold OverPost
        rw [e1]
        exact ⟨rfl, ha, h3, h4⟩)
      have hnext := hide (show ∀ (a' : Nat) (w' : World), stepE n a l[k].data.toList = (0, a') → wayB w' b (p a') (.slice (some ⟨g, o, none⟩) l.length lc) sl → Fr (fun k => k = b) w w' → OverRel σ p (l.map (·.data.toList)) m a0 b (.slice (some ⟨g, o, none⟩) l.length lc) sl w (gk - 1) (.int .i64 ((k : Int) + 1)) w' from fun a' w' h2 h3 h4 => by
        have e1 := over_next (σ := σ) hkm Hov.out (by rw [hgk2, hstep, h2])
        rw [hgk2, hstep, h2] at e1
        have h5 := hlive.step ha l[k].data.toList
        rw [hstep, h2] at h5
        exact ⟨k + 1, a', by have := Hgk.out; omega, by go_num, e1, h5, h3, h4⟩)
      have hkI : (k : Int) < (m : Int) := by omega
      have hkL : (k : Int) < (l.length : Int) := by omega
      have hhere := here_any wr p b a n dvn evn pvn hnd hwr
      have Hfr := hide hfr
      have Hnd := hide hnd
      clear hc hg hstep hgk2 hlive hnd hfr hfA ha hkm
      generalize l[k] = q at *
      have hc0 : wr.cell? ⟨b, 0, none⟩ = some (.pointer (some ⟨p a, 0, none⟩)) := by rw [blk_cell hwr]; rfl
      have hz0 : wr.frozen? ⟨b, 0, none⟩ = false := blk_frozen hwr 0
      have Hwr := hide hwr
      clear hwr
      rcases (show hereE n = 20 ∨ hereE n = 13 ∨ hereE n = 0 by unfold hereE; split; · exact .inl rfl
                                                                · split; · exact .inr (.inl rfl)
                                                                  · exact .inr (.inr rfl)) with h1 | h1 | h1
      · have hfin := hide (herr.out 20 wr (by decide) (by unfold stepE; rw [if_pos (by rw [h1]; decide), h1]) Hwr.out Hfr.out)
        rw [h1] at hhere
        clear hnext herr h1
        go_wp2_with fail
        refine hhere.mono ?_
        rintro e w' ⟨rfl, rfl⟩
        go_wp2_with fail
        go_ret
        exact hfin.out
      · have hfin := hide (herr.out 13 wr (by decide) (by unfold stepE; rw [if_pos (by rw [h1]; decide), h1]) Hwr.out Hfr.out)
        rw [h1] at hhere
        clear hnext herr h1
        go_wp2_with fail
        refine hhere.mono ?_
        rintro e w' ⟨rfl, rfl⟩
        go_wp2_with fail
        go_ret
        exact hfin.out
      · have H1 := hide h1
        rw [h1] at hhere
        have hd : n.d = true := by
          unfold hereE at h1
          cases hd : n.d with
          | true => rfl
          | false => rw [hd] at h1; simp at h1
        clear h1
        have hst : stepE n a q.data.toList = if q.data.toList = dot then (0, a) else if q.data.toList = dots then (if n.links = 0 then (2, a) else (0, n.par)) else if 32 < q.data.toList.length then (36, a) else leadE a (kget q.data.toList n.ents) := by
          unfold stepE
          rw [if_neg (by simp [H1.out])]
        have Hst := hide hst
        clear hst
        obtain ⟨-, mb, hev, hmp⟩ := Hnd.out.dir hd
        by_cases q1 : q.toList = [46]
        · have hnx := hide (hnext.out a wr (by rw [Hst.out, if_pos (by rw [← ByteArray.toList_eq, q1]; rfl)]) Hwr.out Hfr.out)
          clear hnext herr
          go_wp2_with fail
          refine hhere.mono ?_
          rintro e w' ⟨rfl, rfl⟩
          go_wp2_with fail
          go_roundg (gk - 1)
          case measure => have := Hgk.out; omega
          case rel => exact hnx.out
        have n1 : ¬ q.data.toList = dot := fun e => q1 (by rw [ByteArray.toList_eq, e]; rfl)
        have b1 : (q.toList == [46]) = false := by simpa using q1
        clear q1
        by_cases q2 : q.toList = [46, 46]
        · have hs2 : stepE n a q.data.toList = if n.links = 0 then (2, a) else (0, n.par) := by rw [Hst.out, if_neg n1, if_pos (by rw [← ByteArray.toList_eq, q2]; rfl)]
          have c3 : wr.cell? ⟨p a, 3, none⟩ = some (.int .i64 n.links) := by rw [blk_cell Hnd.out.hb]; rfl
          by_cases hl0 : n.links = 0
          · have hfin := hide (herr.out 2 wr (by decide) (by rw [hs2, if_pos hl0]) Hwr.out Hfr.out)
            rw [hl0] at c3
            clear hnext herr hs2 n1
            go_wp2_with fail
            refine hhere.mono ?_
            rintro e w' ⟨rfl, rfl⟩
            go_wp2_with fail
            go_ret
            exact hfin.out
          · have hpv := Hnd.out.par hd (by omega)
            have c7 : wr.cell? ⟨p a, 7, none⟩ = some (.pointer (some ⟨p n.par, 0, none⟩)) := by rw [blk_cell Hnd.out.hb, hpv]; rfl
            have hnx := hide (hnext.out n.par (wr.setCell ⟨b, 0, none⟩ (.pointer (some ⟨p n.par, 0, none⟩))) (by rw [hs2, if_neg hl0]) (by unfold wayB; rw [blk_set Hwr.out]; rfl) (Hfr.out.trans (frSet _ _ _ _)))
            have hl1 : ¬ (n.links : Int) = 0 := by omega
            clear hnext herr hs2 n1 hpv
            go_wp2_with fail
            refine hhere.mono ?_
            rintro e w' ⟨rfl, rfl⟩
            go_wp2_with fail
            go_roundg (gk - 1)
            case measure => have := Hgk.out; omega
            case rel => exact hnx.out
        have n2 : ¬ q.data.toList = dots := fun e => q2 (by rw [ByteArray.toList_eq, e]; rfl)
        have b2 : (q.toList == [46, 46]) = false := by simpa using q2
        clear q2
        by_cases q3 : 32 < q.size
        · have hfin := hide (herr.out 36 wr (by decide) (by rw [Hst.out, if_neg n1, if_neg n2, if_pos (by rw [ba_len]; exact q3)]) Hwr.out Hfr.out)
          have q3i : (32 : Int) < (q.size : Int) := by omega
          clear hnext herr n1 n2
          go_wp2_with fail
          refine hhere.mono ?_
          rintro e w' ⟨rfl, rfl⟩
          go_wp2_with fail
          go_ret
          exact hfin.out
        have hs3 : stepE n a q.data.toList = leadE a (kget q.data.toList n.ents) := by rw [Hst.out, if_neg n1, if_neg n2, if_neg (by rw [ba_len]; exact q3)]
        have q3i : ¬ (32 : Int) < (q.size : Int) := by omega
        have c6 : wr.cell? ⟨p a, 6, none⟩ = some (.map (some mb)) := by rw [blk_cell Hnd.out.hb, hev]; rfl
        have hlook := hmp.look (t := 55) (e := 52) false Tryz.underlying9 Tryz.underlying55 (show (zeroValue 52).run Tryz.prog wr = .ok (.pointer none) wr by kernel_rfl) q (by unfold maxLen; omega)
        rw [if_neg (by simp), kget_kmap] at hlook
        cases hk : kget q.data.toList n.ents with
        | none =>
          rw [hk] at hlook hs3
          simp only [Option.map_none, Option.getD_none] at hlook
          have hfin := hide (herr.out 2 wr (by decide) hs3 Hwr.out Hfr.out)
          clear hnext herr n1 n2 hs3 hk hmp
          go_wp2_with fail
          refine hhere.mono ?_
          rintro e w' ⟨rfl, rfl⟩
          go_wp2_with fail
          go_ret
          exact hfin.out
        | some k' =>
          rw [hk] at hlook hs3
          simp only [Option.map_some, Option.getD_some] at hlook
          have hnx := hide (hnext.out k' (wr.setCell ⟨b, 0, none⟩ (.pointer (some ⟨p k', 0, none⟩))) hs3 (by unfold wayB; rw [blk_set Hwr.out]; rfl) (Hfr.out.trans (frSet _ _ _ _)))
          clear hnext herr n1 n2 hs3 hk hmp
          go_wp2_with fail
          refine hhere.mono ?_
          rintro e w' ⟨rfl, rfl⟩
          go_wp2_with fail
          go_roundg (gk - 1)
          case measure => have := Hgk.out; omega
          case rel => exact hnx.out
    · have hk : k = m := by have := Hgk.out; omega
      have hov := Hov.out
      rw [hk] at hov
      have hfin := hide (show OverPost σ p ((l.map (·.data.toList)).take m) a0 b (.slice la l.length lc) sl w (.returned (.int .i64 0)) wr from by
        unfold OverPost
        rw [hov]
        exact ⟨rfl, ha, hwr, hfr⟩)
      have hkI : ¬ (k : Int) < (m : Int) := by omega
      clear hov hwr
      go_wp2_with fail
      go_ret
      exact hfin.out
end Go.Proofs.YthikjdpnlahkfaaGreatDoor
