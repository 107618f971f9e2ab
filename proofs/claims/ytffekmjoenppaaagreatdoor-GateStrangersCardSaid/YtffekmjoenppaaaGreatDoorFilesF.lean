/- files.FS.Walk, ahead. Conditions: the contract's own premises. -/
import Derived.Test.YtffekmjoenppaaaGreatDoorFilesE
namespace Go.Proofs.YtffekmjoenppaaaGreatDoor
open Go.RowKit

set_option maxRecDepth 100000 in
theorem Walk_any (w : World) (f : Nat) (σ : FSt) (S : Nat → Prop) (p : Nat → Nat) (h : FilesAt w f σ S p) (hml : Ml w) (dir : Int) (hd : -9223372036854775808 ≤ dir ∧ dir ≤ 9223372036854775807) (s : ByteArray) (hs : s.size ≤ 9223372036854775807) :
    Calls Tryz.prog 54 #[.pointer (some ⟨f, 0, none⟩), .int .i64 dir, .string s] w fun e w' =>
      e = .returned (.tuple #[.int .i64 (if (walkE σ dir s.data.toList).1 = 0 then ((walkE σ dir s.data.toList).2 : Int) else 0), .int .i64 (walkE σ dir s.data.toList).1]) ∧ Fr (fun _ => False) w w' := by
  have hst := fwalk_any w f σ S p h hml dir hd s hs
  unfold WalkPost at hst
  generalize walkE σ dir s.data.toList = q at *
  obtain ⟨E, A⟩ := q
  simp only at hst ⊢
  by_cases hE : E = 0
  · subst hE
    rw [if_pos rfl]
    have hst := hide hst
    go_enter Tryz.func54, Tryz.ntmps54
    go_wp2_with fail
    refine hst.out.mono ?_
    rintro e w1 ⟨a, rfl, hf1, ha⟩
    obtain ⟨rfl, hA⟩ := ha trivial
    obtain ⟨n, hn⟩ := Option.isSome_iff_exists.1 hA
    obtain ⟨dvn, evn, pvn, hnd⟩ := (h.frame hf1 (fun _ _ _ e => e)).node hn
    have c0 : w1.cell? ⟨p A, 0, none⟩ = some (.int .i64 A) := by rw [blk_cell hnd.hb]; rfl
    clear hst ha
    go_wp2_with fail
    go_returns
    exact ⟨rfl, hf1⟩
  · rw [if_neg hE]
    have hst := hide hst
    go_enter Tryz.func54, Tryz.ntmps54
    go_wp2_with fail
    refine hst.out.mono ?_
    rintro e w1 ⟨a, rfl, hf1, ha⟩
    clear hst ha
    go_wp2_with fail
    go_returns
    exact ⟨rfl, hf1⟩
def AheadPost (σ : FSt) (p : Nat → Nat) (dir : Int) (s : List UInt8) (w : World) (e : Ending) (w' : World) : Prop :=
  ∃ (dv : Value) (nm : ByteArray) (sl : Bool), e = .returned (.tuple #[.agg #[dv, .string nm, .bool sl], .int .i64 (aheadE σ dir s).1]) ∧ Fr (fun _ => False) w w' ∧
    ((aheadE σ dir s).1 = 0 → dv = .pointer (some ⟨p (aheadE σ dir s).2.1, 0, none⟩) ∧ nm.data.toList = (aheadE σ dir s).2.2 ∧ nm.size ≤ 32 ∧ sl = slashS s ∧ ∃ n, σ.nd (aheadE σ dir s).2.1 = some n ∧ n.d = true) ∧
    ((aheadE σ dir s).1 ≠ 0 → dv = .pointer none ∧ nm = ⟨#[]⟩ ∧ sl = false)
theorem aheadPost_err {σ : FSt} {p : Nat → Nat} {dir : Int} {s : List UInt8} {w w' : World} {E : Int} (h : (aheadE σ dir s).1 = E) (h0 : E ≠ 0) (hf : Fr (fun _ => False) w w') :
    AheadPost σ p dir s w (.returned (.tuple #[.agg #[.pointer none, .string ⟨#[]⟩, .bool false], .int .i64 E])) w' :=
  ⟨_, _, _, by rw [h], hf, fun e => absurd (h ▸ e) h0, fun _ => ⟨rfl, rfl, rfl⟩⟩
theorem cells3 {W : World} {b T : Nat} {x0 y0 z0 : Value} (hb : W.heap[b]? = some (.cells #[x0, y0, z0] T (0, 0))) (x y z : Value) :
    W.cell? ⟨b, 0, none⟩ = some x0 ∧ W.cell? ⟨b, 1, none⟩ = some y0 ∧ W.cell? ⟨b, 2, none⟩ = some z0 ∧ (W.setCell ⟨b, 0, none⟩ x).cell? ⟨b, 0, none⟩ = some x ∧
    ((W.setCell ⟨b, 0, none⟩ x).setCell ⟨b, 1, none⟩ y).cell? ⟨b, 1, none⟩ = some y ∧ (((W.setCell ⟨b, 0, none⟩ x).setCell ⟨b, 1, none⟩ y).setCell ⟨b, 2, none⟩ z).cell? ⟨b, 2, none⟩ = some z ∧
    Fr (fun k => k = b) W (((W.setCell ⟨b, 0, none⟩ x).setCell ⟨b, 1, none⟩ y).setCell ⟨b, 2, none⟩ z) := by
  have hb7 := blk_set hb 0 x
  have hb8 := blk_set hb7 1 y
  have hb9 := blk_set hb8 2 z
  refine ⟨by rw [blk_cell hb]; rfl, by rw [blk_cell hb]; rfl, by rw [blk_cell hb]; rfl, by rw [blk_cell hb7]; rfl, by rw [blk_cell hb8]; rfl, by rw [blk_cell hb9]; rfl, ((frSet W b 0 x).trans (frSet _ b 1 y)).trans (frSet _ b 2 z)⟩
set_option maxRecDepth 100000 in
set_option maxHeartbeats 4000000 in
theorem ahead_any (w : World) (f : Nat) (σ : FSt) (S : Nat → Prop) (p : Nat → Nat) (h : FilesAt w f σ S p) (hml : Ml w) (dir : Int) (hd : -9223372036854775808 ≤ dir ∧ dir ≤ 9223372036854775807) (s : ByteArray) (hs : s.size ≤ 9223372036854775807) :
    Calls Tryz.prog 68 #[.pointer (some ⟨f, 0, none⟩), .int .i64 dir, .string s] w (AheadPost σ p dir s.data.toList w) := by
  obtain ⟨w0, hw0⟩ : ∃ w0, w0 = w.alloc (.cells #[.pointer none, .string ⟨#[]⟩, .bool false] 145 (0, 0)) := ⟨_, rfl⟩
  have hf0 : Fr (fun _ => False) w w0 := by rw [hw0]; exact (Fr.refl _ _).alloc _
  have hb0 : w0.heap[w.heap.size]? = some (.cells #[.pointer none, .string ⟨#[]⟩, .bool false] 145 (0, 0)) := by rw [hw0]; exact blk_new _ _
  have h0 := h.frame hf0 (fun _ _ _ e => e)
  have hst := start_any w0 f σ S p h0 (hml.frame hf0 (fun e => e)) dir hd s hs
  have hdef : aheadE σ dir s.data.toList = 
    if (startE σ dir s.data.toList).1 ≠ 0 then ((startE σ dir s.data.toList).1, 0, [])
    else if (overS σ (piecesS s.data.toList).dropLast (startE σ dir s.data.toList).2).1 ≠ 0 then ((overS σ (piecesS s.data.toList).dropLast (startE σ dir s.data.toList).2).1, 0, [])
    else if hereS σ (overS σ (piecesS s.data.toList).dropLast (startE σ dir s.data.toList).2).2 ≠ 0 then (hereS σ (overS σ (piecesS s.data.toList).dropLast (startE σ dir s.data.toList).2).2, 0, [])
    else match (piecesS s.data.toList).getLast? with
      | none => (22, 0, [])
      | some p => if p = dot ∨ p = dots then (22, 0, []) else if 32 < p.length then (36, 0, []) else (0, (overS σ (piecesS s.data.toList).dropLast (startE σ dir s.data.toList).2).2, p) := rfl
  have herr := hide (show ∀ (E : Int) w', (aheadE σ dir s.data.toList).1 = E → E ≠ 0 → Fr (fun _ => False) w w' → AheadPost σ p dir s.data.toList w (.returned (.tuple #[.agg #[.pointer none, .string ⟨#[]⟩, .bool false], .int .i64 E])) w' from fun E w' h1 h2 h3 => aheadPost_err h1 h2 h3)
  unfold StartPost at hst
  generalize startE σ dir s.data.toList = q at *
  obtain ⟨E, a0⟩ := q
  simp only at hst hdef
  have Hdef := hide hdef
  have hst := hide hst
  clear hdef
  subst hw0
  go_enter Tryz.func68, Tryz.ntmps68
  go_wp2_with fail
  refine hst.out.mono ?_
  rintro e w1 ⟨atv, pv, sl, rfl, hf1, hok, hno⟩
  have hb1 := hf1.get hb0 (fun e => e)
  have hf01 := hf0.trans hf1
  clear hst
  by_cases hE : E = 0
  · subst hE
    obtain ⟨rfl, rfl, ha0, l, hl, hlp, hl1, hl2⟩ := hok rfl
    obtain ⟨la, lc, rfl⟩ := hl.form
    clear hno hok
    have hdef2 := Hdef.out
    rw [if_neg (by simp)] at hdef2
    have h1 := h0.frame hf1 (fun _ _ _ e => e)
    obtain ⟨wo, hwo⟩ : ∃ wo : Obj, wo = .cells #[.pointer (some ⟨p a0, 0, none⟩), .slice la l.length lc, .bool (slashS s.data.toList)] 190 (0, 0) := ⟨_, rfl⟩
    have hbw : (w1.alloc wo).heap[w1.heap.size]? = some (.cells #[.pointer (some ⟨p a0, 0, none⟩), .slice la l.length lc, .bool (slashS s.data.toList)] 190 (0, 0)) := by rw [hwo]; exact blk_new _ _
    have h2 := h1.aside wo
    have hb2 := blk_alloc hb1 wo
    have hl8 := hl.mono (S' := fun k => k ≠ w1.heap.size) (fun k hk _ => Nat.ne_of_lt hk)
    have hl9 := hl8.frame ((Fr.refl (fun _ => False) w1).alloc wo) (fun _ _ _ e => e)
    have hov := over_any _ f σ _ p h2 w1.heap.size a0 l (.slice la l.length lc) (slashS s.data.toList) _ hl9 (fun e => e rfl) (fun e => e.2 rfl) hbw ha0 (l.length - 1) (Nat.sub_le _ _) hl1 hl2
    have ht : (l.map (·.data.toList)).take (l.length - 1) = (piecesS s.data.toList).dropLast := by rw [← hlp, List.dropLast_eq_take, List.length_map]
    rw [ht] at hov
    have hlast : (piecesS s.data.toList).getLast? = l.getLast?.map (·.data.toList) := by rw [← hlp, List.getLast?_map]
    rw [hlast] at hdef2
    unfold OverPost at hov
    obtain ⟨E2, a2, hE2a⟩ : ∃ E2 a2, overS σ (piecesS s.data.toList).dropLast a0 = (E2, a2) := ⟨_, _, rfl⟩
    simp only [hE2a] at hov hdef2
    have hf2 : Fr (fun _ => False) w (w1.alloc wo) := hf01.alloc _
    have hsz0 : w.heap.size < w1.heap.size := blk_lt hb1
    have hdef3 := hdef2
    obtain ⟨_, _, hcells⟩ := hl9.at
    have hga : ∀ g o, la = some ⟨g, o, none⟩ → l.length ≠ 0 → g ≠ w1.heap.size := fun g o e h0 => by
      obtain ⟨a', cap', ea, _, _, hg⟩ := hl9
      cases ea
      rcases hg with hg | ⟨g', o', hg, hS', _⟩
      · exact absurd (by rw [hg]; rfl) h0
      · rw [e] at hg; cases hg; exact hS'
    have c1w : (w1.alloc wo).cell? ⟨w1.heap.size, 1, none⟩ = some (.slice la l.length lc) := by rw [blk_cell hbw]; rfl
    clear hdef2 hlast ht hlp hE2a Hdef h1 h2 hl hl8 hl9
    by_cases hl0 : l = []
    · subst hl0
      simp only [List.length_nil, List.getLast?_nil, Option.map_none, Nat.zero_sub] at hov hdef3 c1w
      rw [show ((0 : Nat) : Int) = 0 from rfl] at hov
      have Hov := hide hov
      clear hov hcells hga
      simp only [List.length_nil]
      subst hwo
      go_wp2_with fail
      refine Hov.out.mono ?_
      rintro e w3 ⟨rfl, ha3, hw3, hf3⟩
      have hf4 : Fr (fun _ => False) w w3 := hf2.trans' hf3 (fun i hi e => by omega)
      have hb3 := hf3.get hb2 (by omega)
      clear Hov
      by_cases hE2 : E2 = 0
      · subst hE2
        rw [if_neg (by simp)] at hdef3
        have hA3 := h.frame hf4 (fun _ _ _ e => e)
        obtain ⟨n, hn⟩ := Option.isSome_iff_exists.1 ha3
        obtain ⟨dvn, evn, pvn, hnd⟩ := hA3.node hn
        have hhS : hereS σ a2 = hereE n := by unfold hereS; rw [hn]
        rw [hhS] at hdef3
        by_cases hh : hereE n = 0
        · rw [if_neg (by simp [hh])] at hdef3
          have hdn : n.d = true := by
            unfold hereE at hh
            cases hd : n.d with
            | true => rfl
            | false => rw [hd] at hh; simp at hh
          have hhere := here_any w3 p w1.heap.size a2 n dvn evn pvn hnd hw3
          rw [hh] at hhere
          clear hh hhS
          obtain ⟨c0, c1, c2, c90, c91, c92, hfs⟩ := cells3 hb3 (.pointer none) (.string ⟨#[]⟩) (.bool false)
          have zz := blk_frozen hb3
          have hres := hide (herr.out 22 _ (by rw [hdef3]) (by decide) (hf4.trans' hfs (fun i hi e => by omega)))
          clear hdef3 herr
          go_wp2_with fail
          refine hhere.mono ?_
          rintro e w4 ⟨rfl, rfl⟩
          go_wp2_with fail
          refine bodyPost_ret (by simp [results, Tryz.results68, go_sem, c90, c91, c92]; try rfl) rfl ?_
          exact hres.out
        · rw [if_pos hh] at hdef3
          have hhere := here_any w3 p w1.heap.size a2 n dvn evn pvn hnd hw3
          obtain ⟨c0, c1, c2, c90, c91, c92, hfs⟩ := cells3 hb3 (.pointer none) (.string ⟨#[]⟩) (.bool false)
          have zz := blk_frozen hb3
          have hres := hide (herr.out (hereE n) _ (by rw [hdef3]) hh (hf4.trans' hfs (fun i hi e => by omega)))
          clear hdef3 herr hhS
          generalize hereE n = E3 at *
          go_wp2_with fail
          refine hhere.mono ?_
          rintro e w4 ⟨rfl, rfl⟩
          go_wp2_with fail
          refine bodyPost_ret (by simp [results, Tryz.results68, go_sem, c90, c91, c92]; try rfl) rfl ?_
          exact hres.out
      · rw [if_pos hE2] at hdef3
        obtain ⟨c0, c1, c2, c90, c91, c92, hfs⟩ := cells3 hb3 (.pointer none) (.string ⟨#[]⟩) (.bool false)
        have zz := blk_frozen hb3
        have hres := hide (herr.out E2 _ (by rw [hdef3]) hE2 (hf4.trans' hfs (fun i hi e => by omega)))
        clear hdef3 herr
        go_wp2_with fail
        refine bodyPost_ret (by simp [results, Tryz.results68, go_sem, c90, c91, c92]; try rfl) rfl ?_
        exact hres.out
    · obtain ⟨k, hk⟩ : ∃ k, l.length = k + 1 := ⟨l.length - 1, by have := List.length_pos_iff.2 hl0; omega⟩
      have hk9 : k < l.length := by omega
      have hgl : l.getLast? = some l[k] := by rw [List.getLast?_eq_getElem?, hk, List.getElem?_eq_getElem (by omega)]; rfl
      rw [hgl] at hdef3
      simp only [Option.map_some] at hdef3
      rw [show l.length - 1 = k by omega] at hov
      replace hcells := hcells.resolve_left (by omega)
      replace hga := fun g o e => hga g o e (by omega)
      have en : (l.length : Int) - 1 = (k : Int) := by omega
      have em : max (k : Int) 0 = (k : Int) := by omega
      have hk0 : ¬ (k : Int) < 0 := by omega
      have Hov := hide hov
      clear hov hgl hl0 hk
      subst hwo
      go_wp2_with fail
      refine Hov.out.mono ?_
      rintro e w3 ⟨rfl, ha3, hw3, hf3⟩
      have hf4 : Fr (fun _ => False) w w3 := hf2.trans' hf3 (fun i hi e => by omega)
      have hb3 := hf3.get hb2 (by omega)
      clear Hov
      by_cases hE2 : E2 = 0
      · subst hE2
        rw [if_neg (by simp)] at hdef3
        have hA3 := h.frame hf4 (fun _ _ _ e => e)
        obtain ⟨n, hn⟩ := Option.isSome_iff_exists.1 ha3
        obtain ⟨dvn, evn, pvn, hnd⟩ := hA3.node hn
        have hhS : hereS σ a2 = hereE n := by unfold hereS; rw [hn]
        rw [hhS] at hdef3
        by_cases hh : hereE n = 0
        · rw [if_neg (by simp [hh])] at hdef3
          have hdn : n.d = true := by
            unfold hereE at hh
            cases hd : n.d with
            | true => rfl
            | false => rw [hd] at hh; simp at hh
          have hhere := here_any w3 p w1.heap.size a2 n dvn evn pvn hnd hw3
          rw [hh] at hhere
          clear hh hhS
          obtain ⟨g, o, rfl, hc⟩ := hcells
          have ck := hc k hk9
          have hne9 : g ≠ w1.heap.size := hga g o rfl
          replace ck := (World.cell?_of_block (a := ⟨g, o + k, none⟩) (hf3.block g (World.block_lt_of_cell? _ _ ck) hne9)).trans ck
          have hqs := hl2 l[k] (List.getElem_mem hk9)
          clear hc hga
          generalize l[k] = q at *
          have c30 : w3.cell? ⟨w1.heap.size, 0, none⟩ = some (.pointer (some ⟨p a2, 0, none⟩)) := by rw [blk_cell hw3]; rfl
          have c31 : w3.cell? ⟨w1.heap.size, 1, none⟩ = some (.slice (some ⟨g, o, none⟩) l.length lc) := by rw [blk_cell hw3]; rfl
          have c32 : w3.cell? ⟨w1.heap.size, 2, none⟩ = some (.bool (slashS s.data.toList)) := by rw [blk_cell hw3]; rfl
          have hkL : (k : Int) < (l.length : Int) := by omega
          by_cases q1 : q.toList = [46]
          · obtain ⟨c0, c1, c2, c90, c91, c92, hfs⟩ := cells3 hb3 (.pointer none) (.string ⟨#[]⟩) (.bool false)
            have zz := blk_frozen hb3
            have hres := hide (herr.out 22 _ (by rw [hdef3, if_pos (.inl (by rw [← ByteArray.toList_eq, q1]; rfl))]) (by decide) (hf4.trans' hfs (fun i hi e => by omega)))
            clear hdef3 herr
            go_wp2_with fail
            refine hhere.mono ?_
            rintro e w4 ⟨rfl, rfl⟩
            go_wp2_with fail
            refine bodyPost_ret (by simp [results, Tryz.results68, go_sem, c90, c91, c92]; try rfl) rfl ?_
            exact hres.out
          have b1 : (q.toList == [46]) = false := by simpa using q1
          by_cases q2 : q.toList = [46, 46]
          · obtain ⟨c0, c1, c2, c90, c91, c92, hfs⟩ := cells3 hb3 (.pointer none) (.string ⟨#[]⟩) (.bool false)
            have zz := blk_frozen hb3
            have hres := hide (herr.out 22 _ (by rw [hdef3, if_pos (.inr (by rw [← ByteArray.toList_eq, q2]; rfl))]) (by decide) (hf4.trans' hfs (fun i hi e => by omega)))
            clear hdef3 herr
            go_wp2_with fail
            refine hhere.mono ?_
            rintro e w4 ⟨rfl, rfl⟩
            go_wp2_with fail
            refine bodyPost_ret (by simp [results, Tryz.results68, go_sem, c90, c91, c92]; try rfl) rfl ?_
            exact hres.out
          have b2 : (q.toList == [46, 46]) = false := by simpa using q2
          rw [if_neg (by rw [← ByteArray.toList_eq]; exact fun e => e.elim q1 q2)] at hdef3
          by_cases q3 : (32 : Int) < (q.size : Int)
          · obtain ⟨c0, c1, c2, c90, c91, c92, hfs⟩ := cells3 hb3 (.pointer none) (.string ⟨#[]⟩) (.bool false)
            have zz := blk_frozen hb3
            have hres := hide (herr.out 36 _ (by rw [hdef3, if_pos (by rw [ba_len]; omega)]) (by decide) (hf4.trans' hfs (fun i hi e => by omega)))
            clear hdef3 herr q1 q2
            go_wp2_with fail
            refine hhere.mono ?_
            rintro e w4 ⟨rfl, rfl⟩
            go_wp2_with fail
            refine bodyPost_ret (by simp [results, Tryz.results68, go_sem, c90, c91, c92]; try rfl) rfl ?_
            exact hres.out
          rw [if_neg (by rw [ba_len]; omega)] at hdef3
          obtain ⟨c0, c1, c2, c90, c91, c92, hfs⟩ := cells3 hb3 (.pointer (some ⟨p a2, 0, none⟩)) (.string q) (.bool (slashS s.data.toList))
          have zz := blk_frozen hb3
          have hres := hide (show AheadPost σ p dir s.data.toList w _ _ from ⟨_, q, slashS s.data.toList, rfl, (hf4.trans' hfs (fun i hi e => by omega)).drew, fun _ => by rw [hdef3]; exact ⟨rfl, rfl, by omega, rfl, n, hn, hdn⟩, fun e => absurd (by rw [hdef3]) e⟩)
          rw [hdef3] at hres
          clear hdef3 herr q1 q2
          go_wp2_with fail
          refine hhere.mono ?_
          rintro e w4 ⟨rfl, rfl⟩
          go_wp2_with fail
          refine region_tail 9 (by kernel_rfl) (by kernel_rfl) ?_
          simp only [List.take_succ_cons, List.take_zero, List.drop_succ_cons, List.drop_zero]
          repeat go_big_quiet_step (fail)
          refine wpQuiet_nil ?_
          go_wp2_with fail
          refine bodyPost_ret (by simp [results, Tryz.results68, go_sem, c90, c91, c92]; try rfl) rfl ?_
          exact hres.out
        · rw [if_pos hh] at hdef3
          have hhere := here_any w3 p w1.heap.size a2 n dvn evn pvn hnd hw3
          obtain ⟨c0, c1, c2, c90, c91, c92, hfs⟩ := cells3 hb3 (.pointer none) (.string ⟨#[]⟩) (.bool false)
          have zz := blk_frozen hb3
          have hres := hide (herr.out (hereE n) _ (by rw [hdef3]) hh (hf4.trans' hfs (fun i hi e => by omega)))
          clear hdef3 herr hhS
          generalize hereE n = E3 at *
          go_wp2_with fail
          refine hhere.mono ?_
          rintro e w4 ⟨rfl, rfl⟩
          go_wp2_with fail
          refine bodyPost_ret (by simp [results, Tryz.results68, go_sem, c90, c91, c92]; try rfl) rfl ?_
          exact hres.out
      · rw [if_pos hE2] at hdef3
        obtain ⟨c0, c1, c2, c90, c91, c92, hfs⟩ := cells3 hb3 (.pointer none) (.string ⟨#[]⟩) (.bool false)
        have zz := blk_frozen hb3
        have hres := hide (herr.out E2 _ (by rw [hdef3]) hE2 (hf4.trans' hfs (fun i hi e => by omega)))
        clear hdef3 herr
        go_wp2_with fail
        refine bodyPost_ret (by simp [results, Tryz.results68, go_sem, c90, c91, c92]; try rfl) rfl ?_
        exact hres.out
  · obtain ⟨rfl, rfl, rfl⟩ := hno hE
    have hf9 : Fr (fun _ => False) w (w1.alloc (.cells #[.pointer none, .slice none 0 0, .bool false] 190 (0, 0))) := hf01.alloc _
    have hb2 := blk_alloc hb1 (.cells #[.pointer none, .slice none 0 0, .bool false] 190 (0, 0))
    have zz := blk_frozen hb2
    obtain ⟨c0, c1, c2, c90, c91, c92, hfs⟩ := cells3 hb2 (.pointer none) (.string ⟨#[]⟩) (.bool false)
    have hres := hide (herr.out E _ (by rw [Hdef.out, if_pos hE]) hE (hf9.trans' hfs (fun i hi e => by omega)))
    clear hok hno Hdef
    go_wp2_with fail
    refine bodyPost_ret (by simp [results, Tryz.results68, go_sem, c90, c91, c92]; try rfl) rfl ?_
    exact hres.out
end Go.Proofs.YtffekmjoenppaaaGreatDoor
