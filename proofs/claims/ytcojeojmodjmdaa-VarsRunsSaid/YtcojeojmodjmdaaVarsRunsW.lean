/- The walk of VarsRuns: it returns true and leaves old memory as it was. Conditions: the row of calls reads as a row of calls. -/
import Derived.Test.YtcojeojmodjmdaaVarsJoint
import Derived.Deep.CutBlock
import Derived.Deep.DeepCutAuto
import Derived.Deep.LoopGhost
import Derived.Great.BuildSlice
import Derived.Outline
namespace Go.Proofs.Ytcojeojmodjmdaa
open Go.RowKit

def VRel (W : World) (len gk : Nat) (vv rv ov wv i : Value) (w : World) : Prop :=
  ∃ k b r M args S1 S2 O L, gk + k = len ∧ k ≤ 150 ∧ i = .int .i64 k ∧ vv = .pointer (some ⟨b, 0, none⟩) ∧ rv = .pointer (some ⟨r, 0, none⟩) ∧ VInv W w b r M args S1 S2 O L ov wv
def VCut (W : World) (c : Nat) (cells : Array Value) (vv rv ov wv e1 e2 : Value) (w : World) : Prop :=
  ∃ (b r : Nat) (M : KA VR) (args : List ByteArray) (S1 S2 O : Nat → Prop) (L : List Old) (ev : Int), vv = .pointer (some ⟨b, 0, none⟩) ∧ rv = .pointer (some ⟨r, 0, none⟩) ∧ e1 = .int .i64 ev ∧ e2 = .int .i64 ev ∧ VInv W w b r M args S1 S2 O L ov wv ∧ w.heap[c]? = some (.cells cells 39 (0, 0))
theorem Try.info24 : (Try.prog.info? 24).map (fun i => (i.zero, i.size, i.bytes)) = some (some (.pointer none), 1, 8) := by kernel_rfl
theorem Try.info43 : (Try.prog.info? 43).map (fun i => (i.zero, i.size, i.bytes)) = some (some (.pointer none), 1, 8) := by kernel_rfl
theorem RvAt.start (w : World) : RvAt (w.alloc (.cells #[.slice none 0 0, .slice none 0 0] 46 (0, 0))) w.heap.size [] [] (fun k => w.heap.size ≤ k) :=
  ⟨.slice none 0 0, .slice none 0 0, blk_new _ _, World.ownsRow_nil _ _ _ _, fun g e => by simp [Value.ownBlock] at e, ⟨none, 0, rfl, Nat.le_refl _, fun _ => rfl, .inl rfl⟩, Nat.le_refl _, fun k hk => by simp at hk; omega⟩
theorem getR_form (o : Option VR) : ∃ (s : ByteArray) (x : Bool), getR o = .tuple #[.string s, .bool x] := by cases o <;> exact ⟨_, _, rfl⟩
set_option maxRecDepth 100000 in
set_option maxHeartbeats 16000000 in
theorem vruns_walk (a : Option Addr) (len cap : Nat) (W : World) (hc : VCallRow W a len) : Calls Try.prog 6 #[.slice a len cap] W (LawPost W) := by
  go_enter Try.func6, Try.ntmps6
  go_wp2_with fail
  refine (vawake_any _).mono ?_
  rintro e w1 ⟨rfl, hf1⟩
  go_wp2_with fail
  refine (vnew_any _).mono ?_
  rintro e w2 ⟨b, rfl, h2, hf2⟩
  go_upto_block 0 with fail
  have hI : VInv W (w2.alloc (.cells #[.slice none 0 0, .slice none 0 0] 46 (0, 0))) b w2.heap.size [] [] (fun k => (w1.heap.size ≤ k ∧ k < w2.heap.size) ∨ w2.heap.size + 1 ≤ k) (fun k => w2.heap.size ≤ k) (fun _ => False) [] (.slice none 0 0) (.slice none 0 0) := by
    have z1 := hf1.size
    have z2 := hf2.size
    refine ⟨h2.narrow2 ((Fr.refl (fun _ => False) _).alloc _) (fun _ _ _ e => e) (fun k hk e => .inl ⟨e, hk⟩) (fun k hk => by simp at hk; omega), RvAt.start _, ?_, ?_, fun k hk => by omega, World.ownsRow_nil _ _ _ _, World.ownsRow_nil _ _ _ _, fun g e => (by cases e), fun g e => (by cases e), fun g e => (by cases e), fun g e => e.elim, by simp, by simp, by simp, (hf1.trans hf2).alloc _⟩
    · intro k hk e e2
      simp at hk
      omega
    · rintro k (e | e) <;> omega
  clear h2 hf1 hf2
  go_cut [5, 6] (fun ov wv wx => ∃ b r M args S1 S2 O L, VInv W wx b r M args S1 S2 O L ov wv)
  case first =>
    go_wp2_with fail
    go_loopg [3, 4, 5, 6, 25] len (fun gk vv rv ov wv i wr => VRel W len gk vv rv ov wv i wr)
    case atStart => exact ⟨0, _, _, _, _, _, _, _, _, by omega, by omega, rfl, rfl, rfl, hI⟩
    case round =>
      clear hI
      obtain ⟨k, b, r, M, args, S1, S2, O, L, hgk, hk150, rfl, rfl, rfl, hI⟩ := hrel
      obtain ⟨ova, ovc, rfl⟩ := own_form hI.o1
      obtain ⟨wva, wvc, rfl⟩ := own_form hI.o2
      have Hgk := hide hgk
      clear hgk
      by_cases hlt : k < len
      · obtain ⟨cb, co, rfl, hrow⟩ := hc.2.resolve_left (by omega)
        obtain ⟨what, n, nm, vl, ex, ro, av, al, c0, c1, c2, c3, c4, c5, c6, hnm, hvl, hal16, hal⟩ := hrow k hlt
        obtain ⟨ala, alc, rfl⟩ := hal.form
        have tr : ∀ p v, W.cell? p = some v → wr.cell? p = some v := fun p v h => by rw [World.cell?_of_block (w := W) (hI.fr.block _ (World.block_lt_of_cell? _ _ h) (fun h => h))]; exact h
        have d0 := tr _ _ c0
        have d1 := tr _ _ c1
        have d2 := tr _ _ c2
        have d3 := tr _ _ c3
        have d4 := tr _ _ c4
        have d5 := tr _ _ c5
        have d6 := tr _ _ c6
        clear hrow c0 c1 c2 c3 c4 c5 c6 tr
        have hIa := hI.still ((Fr.refl _ wr).alloc (.cells #[.int .i64 what, .int .i64 n, .string nm, .string vl, .bool ex, .bool ro, .slice ala al.length alc] 39))
        have Hoc := hide (show ∀ g, (Value.slice ova L.length ovc).ownBlock = some g → g < wr.heap.size from fun g e => (hI.o1.lt g e).2)
        have Hwc := hide (show ∀ g, (Value.slice wva L.length wvc).ownBlock = some g → g < wr.heap.size from fun g e => (hI.o2.lt g e).2)
        have hrb : wr.heap.size ≠ r := by have := hI.rf.own'.2; omega
        by_cases h150 : k = 150
        · subst h150
          have hfin : ∃ b r M args S1 S2 O L', VInv W (wr.alloc (.cells #[.int .i64 what, .int .i64 n, .string nm, .string vl, .bool ex, .bool ro, .slice ala al.length alc] 39)) b r M args S1 S2 O L' (.slice ova L.length ovc) (.slice wva L.length wvc) := ⟨_, _, _, _, _, _, _, _, hIa⟩
          have hfin := hide hfin
          clear hI hIa hal
          go_wp2_with fail
          go_meet
          exact hfin.out
        · obtain ⟨wa, hwa⟩ : ∃ wa, wa = wr.alloc (.cells #[.int .i64 what, .int .i64 n, .string nm, .string vl, .bool ex, .bool ro, .slice ala al.length alc] 39) := ⟨_, rfl⟩
          rw [← hwa] at hIa
          have hca : wa.heap[wr.heap.size]? = some (.cells #[.int .i64 what, .int .i64 n, .string nm, .string vl, .bool ex, .bool ro, .slice ala al.length alc] 39 (0, 0)) := by rw [hwa]; exact blk_new _ _
          have hsz : wa.heap.size = wr.heap.size + 1 := by rw [hwa]; simp
          have Hwa := hide hwa
          have Hsz := hide hsz
          have Hal := hide hal
          clear hwa hI hsz hal
          go_upto_block 2 with fail
          go_cut [3, 4, 5, 6, 9, 10] (fun vv rv ov wv e1 e2 wc => VCut W wr.heap.size (#[.int .i64 what, .int .i64 n, .string nm, .string vl, .bool ex, .bool ro, .slice ala al.length alc]) vv rv ov wv e1 e2 wc)
          case first =>
            rw [← Hwa.out]
            clear d0 d1 d2 d3 d4 d5 d6 Hwa
            have e0 : wa.cell? ⟨wr.heap.size, 0, none⟩ = some (.int .i64 what) := by rw [blk_cell hca]; rfl
            have Hca := hide hca
            have HIa := hide hIa
            clear hca hIa
            by_cases q0 : what = 0
            · as_aux_lemma =>
              subst q0
              go_wp2_with fail
              have hszv := Hsz.out
              have hfd : Fr (fun _ => False) wa wa.drew := (Fr.refl _ _).drew
              have HId := HIa.out.still hfd
              have hcS : ∀ k, (rs (rs S1 wr.heap.size wa.heap.size) wa.heap.size wa.drew.heap.size) k → k ≠ wr.heap.size := by
                rintro k (e | e) rfl
                · rcases e.1 with e | e
                  · exact absurd e.2 (by omega)
                  · omega
                · have : wa.drew.heap.size = wa.heap.size := rfl
                  omega
              obtain ⟨ev, M', args', hp, hrp⟩ := set_j HId nm vl hnm (by omega)
              refine region_calls (fun w' => w'.heap[wr.heap.size]? = some (.cells #[.int .i64 0, .int .i64 n, .string nm, .string vl, .bool ex, .bool ro, .slice ala al.length alc] 39 (0, 0))) [0, 1, 2, 3, 4, 6, 7, 8, 9, 10] [5, 11] 12 (by kernel_rfl) (by kernel_rfl) (fun _ _ d _ _ h => by cases d <;> exact h) Hca.out ?_
              simp only [List.map_cons, List.map_nil, List.getD_cons_zero, List.getD_cons_succ, List.drop_succ_cons, List.drop_zero]
              go_big_quiet_step (fail)
              refine wpQuiet_val (.pointer (some ⟨wr.heap.size, 2, none⟩)) rfl (fun w' hS => by (go_simp)) ?_
              simp only [Act.put, List.setIfInBounds_toArray, List.set_cons_succ, List.set_cons_zero]
              refine wpQuiet_val (.string nm) rfl (fun w' hS => by (have e2 : w'.cell? ⟨wr.heap.size, 2, none⟩ = some (.string nm) := (by rw [blk_cell hS]; rfl); go_simp)) ?_
              simp only [Act.put, List.setIfInBounds_toArray, List.set_cons_succ, List.set_cons_zero]
              refine wpQuiet_val (.pointer (some ⟨wr.heap.size, 3, none⟩)) rfl (fun w' hS => by (go_simp)) ?_
              simp only [Act.put, List.setIfInBounds_toArray, List.set_cons_succ, List.set_cons_zero]
              refine wpQuiet_val (.string vl) rfl (fun w' hS => by (have e2 : w'.cell? ⟨wr.heap.size, 3, none⟩ = some (.string vl) := (by rw [blk_cell hS]; rfl); go_simp)) ?_
              simp only [Act.put, List.setIfInBounds_toArray, List.set_cons_succ, List.set_cons_zero]
              go_big_quiet_step (fail)
              refine wpQuiet_val (.pointer (some ⟨wr.heap.size, 2, none⟩)) rfl (fun w' hS => by (go_simp)) ?_
              simp only [Act.put, List.setIfInBounds_toArray, List.set_cons_succ, List.set_cons_zero]
              refine wpQuiet_val (.string nm) rfl (fun w' hS => by (have e2 : w'.cell? ⟨wr.heap.size, 2, none⟩ = some (.string nm) := (by rw [blk_cell hS]; rfl); go_simp)) ?_
              simp only [Act.put, List.setIfInBounds_toArray, List.set_cons_succ, List.set_cons_zero]
              refine wpQuiet_val (.pointer (some ⟨wr.heap.size, 3, none⟩)) rfl (fun w' hS => by (go_simp)) ?_
              simp only [Act.put, List.setIfInBounds_toArray, List.set_cons_succ, List.set_cons_zero]
              refine wpQuiet_val (.string vl) rfl (fun w' hS => by (have e2 : w'.cell? ⟨wr.heap.size, 3, none⟩ = some (.string vl) := (by rw [blk_cell hS]; rfl); go_simp)) ?_
              simp only [Act.put, List.setIfInBounds_toArray, List.set_cons_succ, List.set_cons_zero]
              refine wpQuiet_nil ?_
              refine chainS_step rfl (fun K hK => ?_)
              go_wp2_with fail
              refine hp.mono ?_
              rintro e w4 ⟨rfl, ht4, hf4⟩
              have hc4 := hf4.get (show wa.drew.heap[wr.heap.size]? = _ from Hca.out) (fun e => hcS _ e rfl)
              have hrp := hrp w4 ht4 hf4
              refine hK _ _ hc4 ?_
              clear hK K
              refine chainS_step rfl (fun K hK => ?_)
              go_wp2_with fail
              refine hrp.mono ?_
              rintro e w5 ⟨rfl, hI5, hf5⟩
              have hc5 := hf5.get hc4 hrb
              refine hK _ _ hc5 ?_
              have hfin := hide (show VCut W wr.heap.size (#[.int .i64 0, .int .i64 n, .string nm, .string vl, .bool ex, .bool ro, .slice ala al.length alc]) (.pointer (some ⟨b, 0, none⟩)) (.pointer (some ⟨r, 0, none⟩)) (.slice ova L.length ovc) (.slice wva L.length wvc) (.int .i64 ev) (.int .i64 ev) w5 from ⟨b, r, _, _, _, _, _, _, ev, rfl, rfl, rfl, rfl, hI5, hc5⟩)
              clear hK K hp hrp ht4 hf4 hf5 HId hc4 hI5 hc5 hcS
              refine chainS_nil ?_
              go_wp2_with fail
              go_meet
              exact hfin.out
            by_cases q1 : what = 1
            · as_aux_lemma =>
              subst q1
              go_wp2_with fail
              have hszv := Hsz.out
              have hfd : Fr (fun _ => False) wa wa.drew := (Fr.refl _ _).drew
              have HId := HIa.out.still hfd
              have hcS : ∀ k, (rs (rs S1 wr.heap.size wa.heap.size) wa.heap.size wa.drew.heap.size) k → k ≠ wr.heap.size := by
                rintro k (e | e) rfl
                · rcases e.1 with e | e
                  · exact absurd e.2 (by omega)
                  · omega
                · have : wa.drew.heap.size = wa.heap.size := rfl
                  omega
              obtain ⟨ev, M', args', hp, hrp⟩ := unset_j HId nm hnm
              refine region_calls (fun w' => w'.heap[wr.heap.size]? = some (.cells #[.int .i64 1, .int .i64 n, .string nm, .string vl, .bool ex, .bool ro, .slice ala al.length alc] 39 (0, 0))) [0, 1, 2, 4, 5, 6] [3, 7] 8 (by kernel_rfl) (by kernel_rfl) (fun _ _ d _ _ h => by cases d <;> exact h) Hca.out ?_
              simp only [List.map_cons, List.map_nil, List.getD_cons_zero, List.getD_cons_succ, List.drop_succ_cons, List.drop_zero]
              go_big_quiet_step (fail)
              refine wpQuiet_val (.pointer (some ⟨wr.heap.size, 2, none⟩)) rfl (fun w' hS => by (go_simp)) ?_
              simp only [Act.put, List.setIfInBounds_toArray, List.set_cons_succ, List.set_cons_zero]
              refine wpQuiet_val (.string nm) rfl (fun w' hS => by (have e2 : w'.cell? ⟨wr.heap.size, 2, none⟩ = some (.string nm) := (by rw [blk_cell hS]; rfl); go_simp)) ?_
              simp only [Act.put, List.setIfInBounds_toArray, List.set_cons_succ, List.set_cons_zero]
              go_big_quiet_step (fail)
              refine wpQuiet_val (.pointer (some ⟨wr.heap.size, 2, none⟩)) rfl (fun w' hS => by (go_simp)) ?_
              simp only [Act.put, List.setIfInBounds_toArray, List.set_cons_succ, List.set_cons_zero]
              refine wpQuiet_val (.string nm) rfl (fun w' hS => by (have e2 : w'.cell? ⟨wr.heap.size, 2, none⟩ = some (.string nm) := (by rw [blk_cell hS]; rfl); go_simp)) ?_
              simp only [Act.put, List.setIfInBounds_toArray, List.set_cons_succ, List.set_cons_zero]
              refine wpQuiet_nil ?_
              refine chainS_step rfl (fun K hK => ?_)
              go_wp2_with fail
              refine hp.mono ?_
              rintro e w4 ⟨rfl, ht4, hf4⟩
              have hc4 := hf4.get (show wa.drew.heap[wr.heap.size]? = _ from Hca.out) (fun e => hcS _ e rfl)
              have hrp := hrp w4 ht4 hf4
              refine hK _ _ hc4 ?_
              clear hK K
              refine chainS_step rfl (fun K hK => ?_)
              go_wp2_with fail
              refine hrp.mono ?_
              rintro e w5 ⟨rfl, hI5, hf5⟩
              have hc5 := hf5.get hc4 hrb
              refine hK _ _ hc5 ?_
              have hfin := hide (show VCut W wr.heap.size (#[.int .i64 1, .int .i64 n, .string nm, .string vl, .bool ex, .bool ro, .slice ala al.length alc]) (.pointer (some ⟨b, 0, none⟩)) (.pointer (some ⟨r, 0, none⟩)) (.slice ova L.length ovc) (.slice wva L.length wvc) (.int .i64 ev) (.int .i64 ev) w5 from ⟨b, r, _, _, _, _, _, _, ev, rfl, rfl, rfl, rfl, hI5, hc5⟩)
              clear hK K hp hrp ht4 hf4 hf5 HId hc4 hI5 hc5 hcS
              refine chainS_nil ?_
              go_wp2_with fail
              go_meet
              exact hfin.out
            by_cases q2 : what = 2
            · as_aux_lemma =>
              subst q2
              go_wp2_with fail
              have hszv := Hsz.out
              have hfd : Fr (fun _ => False) wa wa.drew := (Fr.refl _ _).drew
              have HId := HIa.out.still hfd
              have hcS : ∀ k, (rs (rs S1 wr.heap.size wa.heap.size) wa.heap.size wa.drew.heap.size) k → k ≠ wr.heap.size := by
                rintro k (e | e) rfl
                · rcases e.1 with e | e
                  · exact absurd e.2 (by omega)
                  · omega
                · have : wa.drew.heap.size = wa.heap.size := rfl
                  omega
              obtain ⟨ev, M', args', hp, hrp⟩ := mark_j HId nm hnm ex ro
              refine region_calls (fun w' => w'.heap[wr.heap.size]? = some (.cells #[.int .i64 2, .int .i64 n, .string nm, .string vl, .bool ex, .bool ro, .slice ala al.length alc] 39 (0, 0))) [0, 1, 2, 3, 4, 5, 6, 8, 9, 10, 11, 12, 13, 14] [7, 15] 16 (by kernel_rfl) (by kernel_rfl) (fun _ _ d _ _ h => by cases d <;> exact h) Hca.out ?_
              simp only [List.map_cons, List.map_nil, List.getD_cons_zero, List.getD_cons_succ, List.drop_succ_cons, List.drop_zero]
              go_big_quiet_step (fail)
              refine wpQuiet_val (.pointer (some ⟨wr.heap.size, 2, none⟩)) rfl (fun w' hS => by (go_simp)) ?_
              simp only [Act.put, List.setIfInBounds_toArray, List.set_cons_succ, List.set_cons_zero]
              refine wpQuiet_val (.string nm) rfl (fun w' hS => by (have e2 : w'.cell? ⟨wr.heap.size, 2, none⟩ = some (.string nm) := (by rw [blk_cell hS]; rfl); go_simp)) ?_
              simp only [Act.put, List.setIfInBounds_toArray, List.set_cons_succ, List.set_cons_zero]
              refine wpQuiet_val (.pointer (some ⟨wr.heap.size, 4, none⟩)) rfl (fun w' hS => by (go_simp)) ?_
              simp only [Act.put, List.setIfInBounds_toArray, List.set_cons_succ, List.set_cons_zero]
              refine wpQuiet_val (.bool ex) rfl (fun w' hS => by (have e2 : w'.cell? ⟨wr.heap.size, 4, none⟩ = some (.bool ex) := (by rw [blk_cell hS]; rfl); go_simp)) ?_
              simp only [Act.put, List.setIfInBounds_toArray, List.set_cons_succ, List.set_cons_zero]
              refine wpQuiet_val (.pointer (some ⟨wr.heap.size, 5, none⟩)) rfl (fun w' hS => by (go_simp)) ?_
              simp only [Act.put, List.setIfInBounds_toArray, List.set_cons_succ, List.set_cons_zero]
              refine wpQuiet_val (.bool ro) rfl (fun w' hS => by (have e2 : w'.cell? ⟨wr.heap.size, 5, none⟩ = some (.bool ro) := (by rw [blk_cell hS]; rfl); go_simp)) ?_
              simp only [Act.put, List.setIfInBounds_toArray, List.set_cons_succ, List.set_cons_zero]
              go_big_quiet_step (fail)
              refine wpQuiet_val (.pointer (some ⟨wr.heap.size, 2, none⟩)) rfl (fun w' hS => by (go_simp)) ?_
              simp only [Act.put, List.setIfInBounds_toArray, List.set_cons_succ, List.set_cons_zero]
              refine wpQuiet_val (.string nm) rfl (fun w' hS => by (have e2 : w'.cell? ⟨wr.heap.size, 2, none⟩ = some (.string nm) := (by rw [blk_cell hS]; rfl); go_simp)) ?_
              simp only [Act.put, List.setIfInBounds_toArray, List.set_cons_succ, List.set_cons_zero]
              refine wpQuiet_val (.pointer (some ⟨wr.heap.size, 4, none⟩)) rfl (fun w' hS => by (go_simp)) ?_
              simp only [Act.put, List.setIfInBounds_toArray, List.set_cons_succ, List.set_cons_zero]
              refine wpQuiet_val (.bool ex) rfl (fun w' hS => by (have e2 : w'.cell? ⟨wr.heap.size, 4, none⟩ = some (.bool ex) := (by rw [blk_cell hS]; rfl); go_simp)) ?_
              simp only [Act.put, List.setIfInBounds_toArray, List.set_cons_succ, List.set_cons_zero]
              refine wpQuiet_val (.pointer (some ⟨wr.heap.size, 5, none⟩)) rfl (fun w' hS => by (go_simp)) ?_
              simp only [Act.put, List.setIfInBounds_toArray, List.set_cons_succ, List.set_cons_zero]
              refine wpQuiet_val (.bool ro) rfl (fun w' hS => by (have e2 : w'.cell? ⟨wr.heap.size, 5, none⟩ = some (.bool ro) := (by rw [blk_cell hS]; rfl); go_simp)) ?_
              simp only [Act.put, List.setIfInBounds_toArray, List.set_cons_succ, List.set_cons_zero]
              refine wpQuiet_nil ?_
              refine chainS_step rfl (fun K hK => ?_)
              go_wp2_with fail
              refine hp.mono ?_
              rintro e w4 ⟨rfl, ht4, hf4⟩
              have hc4 := hf4.get (show wa.drew.heap[wr.heap.size]? = _ from Hca.out) (fun e => hcS _ e rfl)
              have hrp := hrp w4 ht4 hf4
              refine hK _ _ hc4 ?_
              clear hK K
              refine chainS_step rfl (fun K hK => ?_)
              go_wp2_with fail
              refine hrp.mono ?_
              rintro e w5 ⟨rfl, hI5, hf5⟩
              have hc5 := hf5.get hc4 hrb
              refine hK _ _ hc5 ?_
              have hfin := hide (show VCut W wr.heap.size (#[.int .i64 2, .int .i64 n, .string nm, .string vl, .bool ex, .bool ro, .slice ala al.length alc]) (.pointer (some ⟨b, 0, none⟩)) (.pointer (some ⟨r, 0, none⟩)) (.slice ova L.length ovc) (.slice wva L.length wvc) (.int .i64 ev) (.int .i64 ev) w5 from ⟨b, r, _, _, _, _, _, _, ev, rfl, rfl, rfl, rfl, hI5, hc5⟩)
              clear hK K hp hrp ht4 hf4 hf5 HId hc4 hI5 hc5 hcS
              refine chainS_nil ?_
              go_wp2_with fail
              go_meet
              exact hfin.out
            by_cases q3 : what = 3
            · as_aux_lemma =>
              subst q3
              have hszv := Hsz.out
              obtain ⟨i1, hinf, hz0, hz1, hz2⟩ := info_parts Try.info9
              have hWa : Fr (fun _ => False) W wa := HIa.out.fr
              have hsrc := Hal.out.src.frame (hWa.alloc (.cells #[] 9 (0, 0)))
              have hown0 := World.ownsRow_made (base := wa.heap.size) (e := 9) (size := 1) wa #[] 0 (Nat.le_refl _) (Nat.zero_le _) (by simp)
              have e6 : (wa.alloc (.cells #[] 9)).cell? ⟨wr.heap.size, 6, none⟩ = some (.slice ala al.length alc) := by rw [blk_cell (blk_alloc Hca.out _)]; rfl
              clear hszv
              go_wp2_with (at_builtin; refine wpList_append_src rfl _ _ 22 rfl wa.heap.size 9 i1 _ 1 16 Try.underlying22 hinf hz0 hz1 hz2 rfl (by decide) _ _ _ rfl hown0 ala al.length alc (strs al) rfl ?qc1 hsrc strs_one ?qc4 ?qc5 ?qc6 ?_)
              case qc1 => simp [strs]
              case qc4 => unfold maxLen; omega
              case qc5 => omega
              case qc6 => simp
              intro v5 w5 hown5 hfr5 hat5
              have hf5 : Fr (fun _ => False) wa w5 := ((Fr.refl _ _).alloc _).trans' hfr5 (fun i hi e => by simp [Value.ownBlock] at e; omega)
              obtain ⟨a5, c5, rfl⟩ := own_form hown5
              have HI5 := HIa.out.still hf5
              have hc5 := hf5.get Hca.out (fun h => h)
              have hg5 : ∀ g, (Value.slice a5 al.length c5).ownBlock = some g → wa.heap.size ≤ g ∧ g < w5.heap.size := fun g e => hown5.lt g e
              have hfd : Fr (fun _ => False) w5 w5.drew := (Fr.refl _ _).drew
              have HId := HI5.still hfd
              have hWd : Fr (fun _ => False) W w5.drew := hWa.trans (hf5.trans hfd)
              have hs5 := hf5.size
              have hz5 := Hsz.out
              have hcS : ∀ k, (rs (rs (rs S1 wr.heap.size wa.heap.size) wa.heap.size w5.heap.size) w5.heap.size w5.drew.heap.size) k → k ≠ wr.heap.size := by
                rintro k (e | e) rfl
                · rcases e.1 with e | e
                  · rcases e.1 with e | e
                    · exact absurd e.2 (by omega)
                    · omega
                  · omega
                · have : w5.drew.heap.size = w5.heap.size := rfl
                  omega
              have hgS : ∀ g, (Value.slice a5 al.length c5).ownBlock = some g → ¬ (rs (rs (rs S1 wr.heap.size wa.heap.size) wa.heap.size w5.heap.size) w5.heap.size w5.drew.heap.size) g ∧ ¬ (rs (rs (rs S2 wr.heap.size wa.heap.size) wa.heap.size w5.heap.size) w5.heap.size w5.drew.heap.size) g := by
                intro g e
                have h9 := hg5 g e
                have h8 : w5.drew.heap.size = w5.heap.size := rfl
                constructor
                all_goals
                  rintro (e2 | e2)
                  · rcases e2.1 with e2 | e2
                    · omega
                    · omega
                  · omega
              have hownd := hown5.drew
              obtain ⟨ev, M', args', hp, hrp⟩ := setargs_j HId (.slice a5 al.length c5) (.slice ala al.length alc) al (fun _ => True) (fun k => k < W.heap.size) (own_args hownd rfl (fun _ _ => trivial)) (fun w1 h1 => (Hal.out.frame hWd (fun _ _ _ e => e)).frame h1 (fun k _ hk e => by have := HId.lo1 k e; omega)) (by omega)
              have Hg5 := hide hg5
              have HgS := hide hgS
              have HI5' := hide HI5
              have Hoo := hide HI5.oo
              clear HI5 hsrc hown0 hfr5 hat5 hz5 hg5 hgS
              clear e6
              go_wp2
              refine region_calls (fun w' => w'.heap[wr.heap.size]? = some (.cells #[.int .i64 3, .int .i64 n, .string nm, .string vl, .bool ex, .bool ro, .slice ala al.length alc] 39 (0, 0))) [0, 1, 3, 4, 5] [2, 6] 7 (by kernel_rfl) (by kernel_rfl) (fun _ _ d _ _ h => by cases d <;> exact h) hc5 ?_
              simp only [List.map_cons, List.map_nil, List.getD_cons_zero, List.getD_cons_succ, List.drop_succ_cons, List.drop_zero]
              go_big_quiet_step (fail)
              go_big_quiet_step (fail)
              go_big_quiet_step (fail)
              refine wpQuiet_val (.pointer (some ⟨wr.heap.size, 6, none⟩)) rfl (fun w' hS => by (go_simp)) ?_
              simp only [Act.put, List.setIfInBounds_toArray, List.set_cons_succ, List.set_cons_zero]
              refine wpQuiet_val (.slice ala al.length alc) rfl (fun w' hS => by (have e2 : w'.cell? ⟨wr.heap.size, 6, none⟩ = some (.slice ala al.length alc) := (by rw [blk_cell hS]; rfl); go_simp)) ?_
              simp only [Act.put, List.setIfInBounds_toArray, List.set_cons_succ, List.set_cons_zero]
              refine wpQuiet_nil ?_
              refine chainS_step rfl (fun K hK => ?_)
              go_wp2_with fail
              refine hp.mono ?_
              rintro e w6 ⟨rfl, ht6, hf6⟩
              have hc6 := hf6.get (show w5.drew.heap[wr.heap.size]? = _ from hc5) (fun e => hcS _ e rfl)
              have hrp := hrp w6 ht6 hf6
              refine hK _ _ hc6 ?_
              clear hK K
              refine chainS_step rfl (fun K hK => ?_)
              go_wp2_with fail
              refine hrp.mono ?_
              rintro e w7 ⟨rfl, hI7, hf7⟩
              have hc7 := hf7.get hc6 hrb
              have hown6 := own_frame hownd hf6 (fun g e e2 => (HgS.out g e).1 e2)
              have hown7 := own_frame hown6 hf7 (fun g e e2 => by
                have h9 := (HgS.out g e).2
                exact h9 (e2 ▸ HId.rf.own'.1))
              have hs6 := hf6.size
              have hs7 := hf7.size
              refine hK _ _ hc7 ?_
              clear hK K hp hrp ht6
              refine chainS_nil ?_
              have HI7 := hide hI7
              have Hc7 := hide hc7
              have hal63 : al.length ≤ 9223372036854775807 := by omega
              clear hI7 hc7 hc6 hown6 hownd hc5
              have HEND := hide (show ∀ wl, Fr (fun k => (Value.slice a5 al.length c5).ownBlock = some k) w7 wl → VCut W wr.heap.size (#[.int .i64 3, .int .i64 n, .string nm, .string vl, .bool ex, .bool ro, .slice ala al.length alc]) (.pointer (some ⟨b, 0, none⟩)) (.pointer (some ⟨r, 0, none⟩)) (.slice ova L.length ovc) (.slice wva L.length wvc) (.int .i64 ev) (.int .i64 ev) wl from fun wl hfl => by
                have hI8 := HI7.out.out hfl (fun k hk e => by
                  have h1 := Hg5.out k e
                  obtain ⟨h2, h3⟩ := HgS.out k e
                  refine ⟨?_, ?_, fun e2 => ?_, fun e2 => ?_, fun e2 => ?_, ?_⟩
                  · rintro (e2 | e2)
                    · exact h2 e2.1
                    · omega
                  · rintro (e2 | e2)
                    · exact h3 e2.1
                    · have : w5.drew.heap.size = w5.heap.size := rfl
                      have := hf6.size
                      omega
                  · have := Hoc.out k e2; have := Hsz.out; omega
                  · have := Hwc.out k e2; have := Hsz.out; omega
                  · have := (HIa.out.oo k e2).1; omega
                  · have := hWa.size; omega)
                have hc8 := hfl.get Hc7.out (fun e => by have := Hg5.out _ e; have := Hsz.out; omega)
                exact ⟨b, r, _, _, _, _, _, _, ev, rfl, rfl, rfl, rfl, hI8, hc8⟩)
              clear HI7 Hc7
              go_wp2_with fail
              go_loopg [91] al.length (fun gk i wr => ∃ j xs, gk + j = al.length ∧ i = .int .i64 j ∧ wr.ownsRow wa.heap.size 9 1 (.slice a5 al.length c5) al.length xs ∧ Fr (fun k => (Value.slice a5 al.length c5).ownBlock = some k) w7 wr)
              case atStart => exact ⟨0, _, by omega, rfl, hown7, Fr.refl _ _⟩
              case round =>
                obtain ⟨j, xs, hgj, rfl, hox, hfl⟩ := hrel
                have Hgj := hide hgj
                clear hgj
                by_cases hjl : j < al.length
                · obtain ⟨g, c, hgc, hgb, hgl⟩ := hox.form (by omega)
                  cases hgc
                  have hx := hox.cellAt j (by omega)
                  have hxl := hox.1
                  have hx : wr.cell? ⟨g, j, none⟩ = some (xs[j]'(by omega)) := by rw [hx, List.getElem?_eq_getElem]
                  have hz := hox.frozenAt j
                  have hst := (hox.stored j (.string ⟨#[99, 104, 97, 110, 103, 101, 100]⟩)).1
                  have hj1 : (j : Int) < (al.length : Int) := by omega
                  have hnext := hide (show ∃ j' xs', gk - 1 + j' = al.length ∧ (.int .i64 ((j : Int) + 1) : Value) = .int .i64 j' ∧ (wr.setCell ⟨g, j, none⟩ (.string ⟨#[99, 104, 97, 110, 103, 101, 100]⟩)).ownsRow wa.heap.size 9 1 (.slice (some ⟨g, 0, none⟩) al.length c5) al.length xs' ∧ Fr (fun k => (Value.slice (some ⟨g, 0, none⟩) al.length c5).ownBlock = some k) w7 (wr.setCell ⟨g, j, none⟩ (.string ⟨#[99, 104, 97, 110, 103, 101, 100]⟩)) from ⟨j + 1, _, by have := Hgj.out; omega, by go_num, hst, hfl.setCell (p := ⟨g, j, none⟩) (.inl (by simp [Value.ownBlock])) _⟩)
                  generalize xs[j] = xj at hx
                  clear hst hox hfl hown7
                  go_wp2_with fail
                  go_roundg (gk - 1)
                  case measure => have := Hgj.out; omega
                  case rel => exact hnext.out
                · have hfin := hide (HEND.out _ hfl)
                  clear hfl hox hown7
                  go_wp2_with fail
                  go_meet
                  exact hfin.out
            by_cases q4 : what = 4
            · as_aux_lemma =>
              subst q4
              go_wp2_with fail
              have hszv := Hsz.out
              have hfd : Fr (fun _ => False) wa wa.drew := (Fr.refl _ _).drew
              have HId := HIa.out.still hfd
              have hcS : ∀ k, (rs (rs S1 wr.heap.size wa.heap.size) wa.heap.size wa.drew.heap.size) k → k ≠ wr.heap.size := by
                rintro k (e | e) rfl
                · rcases e.1 with e | e
                  · exact absurd e.2 (by omega)
                  · omega
                · have : wa.drew.heap.size = wa.heap.size := rfl
                  omega
              obtain ⟨ev, M', args', hp, hrp⟩ := shift_j HId n
              refine region_calls (fun w' => w'.heap[wr.heap.size]? = some (.cells #[.int .i64 4, .int .i64 n, .string nm, .string vl, .bool ex, .bool ro, .slice ala al.length alc] 39 (0, 0))) [0, 1, 2, 4, 5, 6] [3, 7] 8 (by kernel_rfl) (by kernel_rfl) (fun _ _ d _ _ h => by cases d <;> exact h) Hca.out ?_
              simp only [List.map_cons, List.map_nil, List.getD_cons_zero, List.getD_cons_succ, List.drop_succ_cons, List.drop_zero]
              go_big_quiet_step (fail)
              refine wpQuiet_val (.pointer (some ⟨wr.heap.size, 1, none⟩)) rfl (fun w' hS => by (go_simp)) ?_
              simp only [Act.put, List.setIfInBounds_toArray, List.set_cons_succ, List.set_cons_zero]
              refine wpQuiet_val (.int .i64 n) rfl (fun w' hS => by (have e2 : w'.cell? ⟨wr.heap.size, 1, none⟩ = some (.int .i64 n) := (by rw [blk_cell hS]; rfl); go_simp)) ?_
              simp only [Act.put, List.setIfInBounds_toArray, List.set_cons_succ, List.set_cons_zero]
              go_big_quiet_step (fail)
              refine wpQuiet_val (.pointer (some ⟨wr.heap.size, 1, none⟩)) rfl (fun w' hS => by (go_simp)) ?_
              simp only [Act.put, List.setIfInBounds_toArray, List.set_cons_succ, List.set_cons_zero]
              refine wpQuiet_val (.int .i64 n) rfl (fun w' hS => by (have e2 : w'.cell? ⟨wr.heap.size, 1, none⟩ = some (.int .i64 n) := (by rw [blk_cell hS]; rfl); go_simp)) ?_
              simp only [Act.put, List.setIfInBounds_toArray, List.set_cons_succ, List.set_cons_zero]
              refine wpQuiet_nil ?_
              refine chainS_step rfl (fun K hK => ?_)
              go_wp2_with fail
              refine hp.mono ?_
              rintro e w4 ⟨rfl, ht4, hf4⟩
              have hc4 := hf4.get (show wa.drew.heap[wr.heap.size]? = _ from Hca.out) (fun e => hcS _ e rfl)
              have hrp := hrp w4 ht4 hf4
              refine hK _ _ hc4 ?_
              clear hK K
              refine chainS_step rfl (fun K hK => ?_)
              go_wp2_with fail
              refine hrp.mono ?_
              rintro e w5 ⟨rfl, hI5, hf5⟩
              have hc5 := hf5.get hc4 hrb
              refine hK _ _ hc5 ?_
              have hfin := hide (show VCut W wr.heap.size (#[.int .i64 4, .int .i64 n, .string nm, .string vl, .bool ex, .bool ro, .slice ala al.length alc]) (.pointer (some ⟨b, 0, none⟩)) (.pointer (some ⟨r, 0, none⟩)) (.slice ova L.length ovc) (.slice wva L.length wvc) (.int .i64 ev) (.int .i64 ev) w5 from ⟨b, r, _, _, _, _, _, _, ev, rfl, rfl, rfl, rfl, hI5, hc5⟩)
              clear hK K hp hrp ht4 hf4 hf5 HId hc4 hI5 hc5 hcS
              refine chainS_nil ?_
              go_wp2_with fail
              go_meet
              exact hfin.out
            by_cases q5 : what = 5
            · as_aux_lemma =>
              subst q5
              by_cases hL4 : (L.length : Int) < 4
              · obtain ⟨i1, hin1, hz11, hz12, hz13⟩ := info_parts Try.info24
                obtain ⟨i2, hin2, hz21, hz22, hz23⟩ := info_parts Try.info43
                have hL4n : L.length < 4 := by omega
                have hwsz := HIa.out.fr.size
                have hsrc1 : SrcOk (wa.alloc (.cells #[.pointer (some ⟨b, 0, none⟩)] 24)) (some ⟨wa.heap.size, 0, none⟩) 1 1 [.pointer (some ⟨b, 0, none⟩)] := .inr ⟨_, rfl, fun j u hj => by rw [Addr.add_lit, Nat.zero_add, blk_cell (blk_new _ _)]; simpa using hj⟩
                go_wp2_with (at_builtin; refine wpList_append_src rfl _ _ _ rfl W.heap.size 24 i1 (.pointer none) 1 8 Try.underlying47 hin1 hz11 hz12 hz13 rfl (by decide) _ L.length (vptrs L) rfl (HIa.out.o1.alloc _) (some ⟨wa.heap.size, 0, none⟩) 1 1 [.pointer (some ⟨b, 0, none⟩)] rfl rfl hsrc1 ?c2 ?c3 ?c4 ?c5 ?_)
                case c2 => intro u hu; simp at hu; subst hu; rfl
                case c3 => unfold maxLen; omega
                case c4 => omega
                case c5 => simp; omega
                intro v7 w7 k1 fr7 at7
                have f7 : Fr (fun k => (Value.slice ova L.length ovc).ownBlock = some k) wa w7 := ((Fr.refl _ _).alloc _).trans fr7
                have a1 : ∀ g, v7.ownBlock = some g → (Value.slice ova L.length ovc).ownBlock = some g ∨ wa.heap.size ≤ g := fun g e => by
                  rcases at7 with h | h
                  · left; rw [← h]; exact e
                  · right; rw [h] at e; simp at e; omega
                have hs7 := f7.size
                have ho27 := (own_frame HIa.out.o2 f7 (fun g e e2 => HIa.out.d12 _ e2 e)).alloc (.cells #[.pointer (some ⟨r, 0, none⟩)] 43)
                have hsrc2 : SrcOk (w7.alloc (.cells #[.pointer (some ⟨r, 0, none⟩)] 43)) (some ⟨w7.heap.size, 0, none⟩) 1 1 [.pointer (some ⟨r, 0, none⟩)] := .inr ⟨_, rfl, fun j u hj => by rw [Addr.add_lit, Nat.zero_add, blk_cell (blk_new _ _)]; simpa using hj⟩
                obtain ⟨a7, c7, rfl⟩ := own_form k1
                go_wp2_with (at_builtin; refine wpList_append_src rfl _ _ _ rfl W.heap.size 43 i2 (.pointer none) 1 8 Try.underlying48 hin2 hz21 hz22 hz23 rfl (by decide) _ L.length (wptrs L) rfl ho27 (some ⟨w7.heap.size, 0, none⟩) 1 1 [.pointer (some ⟨r, 0, none⟩)] rfl rfl hsrc2 ?d2 ?d3 ?d4 ?d5 ?_)
                case d2 => intro u hu; simp at hu; subst hu; rfl
                case d3 => unfold maxLen; omega
                case d4 => omega
                case d5 => simp; omega
                intro v8 w8 k2 fr8 at8
                have f8 : Fr (fun k => (Value.slice wva L.length wvc).ownBlock = some k) w7 w8 := ((Fr.refl _ _).alloc _).trans fr8
                have a2 : ∀ g, v8.ownBlock = some g → (Value.slice wva L.length wvc).ownBlock = some g ∨ w7.heap.size ≤ g := fun g e => by
                  rcases at8 with h | h
                  · left; rw [← h]; exact e
                  · right; rw [h] at e; simp at e; omega
                obtain ⟨a8, c8, rfl⟩ := own_form k2
                have f78 : Fr (fun k => (Value.slice ova L.length ovc).ownBlock = some k ∨ (Value.slice wva L.length wvc).ownBlock = some k) wa w8 := (f7.mono (fun _ _ e => .inl e)).trans (f8.mono (fun _ _ e => .inr e))
                have hv8 := HIa.out.v.narrow2 f78 (fun k _ e e2 => e2.elim (fun e2 => (HIa.out.d1 k e2).1 e) (fun e2 => (HIa.out.d2 k e2).1 e)) (fun k hk e => (Or.inl e : _ ∨ w8.heap.size ≤ k)) (fun k hk => .inr hk)
                have hr8 := HIa.out.rf.narrow2 f78 (fun k _ e e2 => e2.elim (fun e2 => (HIa.out.d1 k e2).2 e) (fun e2 => (HIa.out.d2 k e2).2 e)) (fun k hk e => (Or.inl e : _ ∨ w8.heap.size ≤ k)) (fun k hk => .inr hk)
                have hc8 := f78.get Hca.out (fun e => e.elim (fun e => by have := Hoc.out _ e; omega) (fun e => by have := Hwc.out _ e; omega))
                have Hcopied := hide (fun (w9 w10 : World) (b9 r9 : Nat) h1 h2 h3 h4 => HIa.out.copied hL4n k1 f7 a1 k2 f8 a2 (w9 := w9) (w10 := w10) (b9 := b9) (r9 := r9) h1 h2 h3 h4)
                have HM := hide HIa.out.sorted.2
                have HAl := hide HIa.out.al
                clear k1 fr7 at7 f7 a1 k2 fr8 at8 f8 a2 f78 ho27 hsrc1 hsrc2
                go_wp2_with fail
                refine (vcopy_any _ _ _ _ _ hv8 HAl.out).mono ?_
                rintro e w9 ⟨b9, rfl, hv9, hf9⟩
                have hr9 := hr8.frame hf9 (fun _ _ _ e => e)
                have hc9 := hf9.get hc8 (fun h => h)
                clear hv8 hr8 hc8
                go_wp2_with fail
                refine (rcopy_any _ _ _ _ _ hr9 HM.out HAl.out).mono ?_
                rintro e w10 ⟨r9, rfl, hv10, hf10⟩
                have hc10 := hf10.get hc9 (fun h => h)
                have hI10 := Hcopied.out w9 w10 b9 r9 hv9 hf9 hv10 hf10
                have hfin := hide (show VCut W wr.heap.size (#[.int .i64 5, .int .i64 n, .string nm, .string vl, .bool ex, .bool ro, .slice ala al.length alc]) (.pointer (some ⟨b9, 0, none⟩)) (.pointer (some ⟨r9, 0, none⟩)) (.slice a7 (L.length + 1) c7) (.slice a8 (L.length + 1) c8) (.int .i64 0) (.int .i64 0) w10 from ⟨b9, r9, _, _, _, _, _, _, 0, rfl, rfl, rfl, rfl, hI10, hc10⟩)
                clear hr9 hc9 hv9 hf9 hv10 hf10 hc10 hI10
                go_wp2_with fail
                go_meet
                exact hfin.out
              · have hfin := hide (show VCut W wr.heap.size (#[.int .i64 5, .int .i64 n, .string nm, .string vl, .bool ex, .bool ro, .slice ala al.length alc]) (.pointer (some ⟨b, 0, none⟩)) (.pointer (some ⟨r, 0, none⟩)) (.slice ova L.length ovc) (.slice wva L.length wvc) (.int .i64 0) (.int .i64 0) wa from ⟨b, r, _, _, _, _, _, _, 0, rfl, rfl, rfl, rfl, HIa.out, Hca.out⟩)
                clear HIa Hca
                go_wp2_with fail
                go_meet
                exact hfin.out
            · as_aux_lemma =>
              have hfin := hide (show VCut W wr.heap.size (#[.int .i64 what, .int .i64 n, .string nm, .string vl, .bool ex, .bool ro, .slice ala al.length alc]) (.pointer (some ⟨b, 0, none⟩)) (.pointer (some ⟨r, 0, none⟩)) (.slice ova L.length ovc) (.slice wva L.length wvc) (.int .i64 0) (.int .i64 0) wa from ⟨b, r, _, _, _, _, _, _, 0, rfl, rfl, rfl, rfl, HIa.out, Hca.out⟩)
              clear HIa Hca
              go_wp2_with fail
              go_meet
              exact hfin.out
          case rest =>
            as_aux_lemma =>
            clear d0 d1 d2 d3 d4 d5 d6 hca hIa Hwa hrb Hal Hsz Hoc Hwc
            obtain ⟨b, r, M, args, S1, S2, O, L, ev, rfl, rfl, rfl, rfl, hI, hcb⟩ := hcut
            have f2 : wc.cell? ⟨wr.heap.size, 2, none⟩ = some (.string nm) := by rw [blk_cell hcb]; rfl
            have Hcb := hide hcb
            obtain ⟨sv, bv, hR⟩ := getR_form (kget nm.data.toList M)
            have hget := vget_any wc b M args S1 hI.v nm (by omega)
            rw [hR] at hget
            have HG := hide (show ∀ w4, Fr (fun _ => False) wc w4 → Calls Try.prog 26 #[.pointer (some ⟨r, 0, none⟩), .string nm] w4 (fun e w' => e = .returned (.tuple #[.string sv, .bool bv]) ∧ Fr (fun _ => False) w4 w') from fun w4 h4 => by
              have := rget_any w4 r M args S2 (hI.rf.frame h4 (fun _ _ _ e => e)) hI.sorted.2 nm
              rw [hR] at this
              exact this)
            have HS := hide (show ∀ w4, Fr (fun _ => False) wc w4 → Calls Try.prog 27 #[.pointer (some ⟨b, 0, none⟩), .pointer (some ⟨r, 0, none⟩)] w4 (fun e w' => e = .returned (.bool true) ∧ Fr (fun _ => False) w4 w') from fun w4 h4 => vsame_any w4 b r M args S1 S2 (hI.v.frame h4 (fun _ _ _ e => e)) (hI.rf.frame h4 (fun _ _ _ e => e)) hI.al)
            have HI := hide hI
            obtain ⟨ova', ovc', rfl⟩ := own_form hI.o1
            obtain ⟨wva', wvc', rfl⟩ := own_form hI.o2
            have hget := hide hget
            clear hI hcb hR
            go_wp2_with fail
            refine hget.out.mono ?_
            rintro e w4 ⟨rfl, hf4⟩
            have g2 : w4.cell? ⟨wr.heap.size, 2, none⟩ = some (.string nm) := by rw [blk_cell (hf4.get Hcb.out (fun h => h))]; rfl
            go_wp2_with fail
            refine (HG.out w4 hf4).mono ?_
            rintro e w5 ⟨rfl, hf5⟩
            go_wp2_with fail
            refine (HS.out w5 (hf4.trans hf5)).mono ?_
            rintro e w6 ⟨rfl, hf6⟩
            have hI6 := hide (HI.out.still ((hf4.trans hf5).trans hf6))
            clear hf4 hf5 hf6 g2 f2
            go_wp2_with fail
            go_roundg (gk - 1)
            case measure => have := Hgk.out; omega
            case rel => exact ⟨k + 1, b, r, M, args, _, _, O, L, by have := Hgk.out; omega, by omega, by go_num, rfl, rfl, hI6.out⟩
      · have hfin : ∃ b r M args S1 S2 O L', VInv W wr b r M args S1 S2 O L' (.slice ova L.length ovc) (.slice wva L.length wvc) := ⟨_, _, _, _, _, _, _, _, hI⟩
        have hfin := hide hfin
        clear hI
        go_wp2_with fail
        go_meet
        exact hfin.out
  case rest =>
    clear hI
    obtain ⟨b, r, M, args, S1, S2, O, L, hI⟩ := hcut
    obtain ⟨ova, ovc, rfl⟩ := own_form hI.o1
    obtain ⟨wva, wvc, rfl⟩ := own_form hI.o2
    have hL5 := hI.hL
    have HI := hide hI
    clear hI
    go_wp2_with fail
    go_loopg [161] L.length (fun gj i wr => ∃ j, gj + j = L.length ∧ i = .int .i64 j ∧ Fr (fun _ => False) wc wr)
    case atStart => exact ⟨0, by omega, rfl, Fr.refl _ _⟩
    case round =>
      obtain ⟨j, hgj, rfl, hfl⟩ := hrel
      have Hgj := hide hgj
      clear hgj
      by_cases hlt : j < L.length
      · have o1 := own_frame HI.out.o1 hfl (fun _ _ e => e)
        have o2 := own_frame HI.out.o2 hfl (fun _ _ e => e)
        obtain ⟨g1, rfl, _, _, hc1⟩ := own_cells o1 (by omega)
        obtain ⟨g2, rfl, _, _, hc2⟩ := own_cells o2 (by omega)
        have c1 : wr.cell? ⟨g1, j, none⟩ = some (.pointer (some ⟨L[j].1, 0, none⟩)) := hc1 j _ (by simp [vptrs, hlt])
        have c2 : wr.cell? ⟨g2, j, none⟩ = some (.pointer (some ⟨L[j].2.1, 0, none⟩)) := hc2 j _ (by simp [wptrs, hlt])
        clear hc1 hc2 o1 o2
        have hx := HI.out.olds L[j] (List.getElem_mem _)
        have hfd : Fr (fun _ => False) wc wr.drew := hfl.drew
        have hxd := hx.frame hfd (fun _ _ _ e => e) (fun _ _ e => e)
        have Hs := hide (vsame_any wr.drew L[j].1 L[j].2.1 L[j].2.2.1 L[j].2.2.2 _ _ hxd.v hxd.rf hxd.al)
        have hj1 : (j : Int) < (L.length : Int) := by omega
        clear hx hxd
        generalize L[j].1 = tj at *
        generalize L[j].2.1 = rj at *
        go_wp2_with fail
        refine region_tail 8 (by kernel_rfl) (by kernel_rfl) ?_
        simp only [List.take_succ_cons, List.take_zero, List.drop_succ_cons, List.drop_zero]
        repeat go_big_quiet_step (fail)
        refine wpQuiet_nil ?_
        go_wp2_with fail
        refine Hs.out.mono ?_
        rintro e w4 ⟨rfl, hf4⟩
        have hf9 := hfd.trans hf4
        clear hfd hf4 Hs
        go_wp2_with fail
        go_roundg (gk - 1)
        case measure => have := Hgj.out; omega
        case rel => exact ⟨j + 1, by have := Hgj.out; omega, by go_num, hf9⟩
      · have hfin : LawPost W (.returned (.bool true)) wr := ⟨rfl, (HI.out.fr.trans hfl).below (fun _ _ h => h)⟩
        go_wp2_with fail
        go_ret
        exact hfin
end Go.Proofs.Ytcojeojmodjmdaa
