/- The document's variables: Environ. Conditions: the contract's own premises. -/
import Derived.Test.YtcojeojmodjmdaaVarsRefC
namespace Go.Proofs.Ytcojeojmodjmdaa
open Go.RowKit

def REnvRel (w : World) (M : KA VR) (gk : Nat) (l i : Value) (wr : World) : Prop := ∃ k : Nat, gk + k = M.length ∧ i = .int .i64 k ∧ wr.ownsRow w.heap.size 9 1 l (envL (M.take k)).length (strs (envL (M.take k))) ∧ Fr (fun _ => False) w wr
set_option maxRecDepth 100000 in
set_option maxHeartbeats 4000000 in
theorem renv_any (w : World) (r : Nat) (M : KA VR) (args : List ByteArray) (S : Nat → Prop) (h : RvAt w r M args S) (hM : M.length ≤ 64) (hsz : ∀ p ∈ M, p.1.length ≤ 140737488355328 ∧ p.2.value.size ≤ 65536) :
    Calls Try.prog 37 #[.pointer (some ⟨r, 0, none⟩)] w (EnvPost w M) := by
  obtain ⟨i0, hinf, hz0, hz1, hz2⟩ := info_parts Try.info9
  obtain ⟨lv, av, hf⟩ := h
  obtain ⟨la, lc, rfl, hlc, hnone, hrow⟩ := hf.row
  have Key0 := hide (show ∀ w', Fr (fun _ => False) w w' → w'.cell? ⟨r, 0, none⟩ = some (.slice la M.length lc) from fun w' h => by rw [blk_cell (h.get hf.hb (fun h => h))]; rfl)
  have Hrow := hide hrow
  obtain ⟨n, hn⟩ : ∃ n, n = M.length := ⟨_, rfl⟩
  rw [← hn] at Key0 hlc hM
  have Hn := hide hn
  clear hrow hn hnone hf
  go_enter Try.func37, Try.ntmps37
  go_wp2_with fail
  go_loopg [3, 4] n (fun gk l i wr => REnvRel w M gk l i wr)
  case atStart => exact ⟨0, by have := Hn.out; omega, rfl, by simpa [envL, strs] using World.ownsRow_nil _ _ _ _, Fr.refl _ _⟩
  case round =>
    obtain ⟨k, hgk, rfl, hown, hfr⟩ := hrel
    have Hgk := hide hgk
    clear hgk
    have c0 := Key0.out wr hfr
    by_cases hlt : k < n
    · have hltM : k < M.length := by have := Hn.out; omega
      obtain ⟨g, rfl, hgr, hg, hc⟩ := Hrow.out.resolve_left (by have := Hn.out; omega)
      have hcc := hc k hltM
      have htk := envL_take M k hltM
      have hs2 := hsz M[k] (List.getElem_mem hltM)
      have hle := envL_le (M.take k)
      have hle2 : (M.take k).length ≤ 64 := by simp; omega
      clear hc
      have hx : envX M[k] = if (M[k].2.e && !M[k].2.u) = true then some (((⟨M[k].1.toArray⟩ : ByteArray) ++ eqS) ++ M[k].2.value) else none := rfl
      obtain ⟨p, hp⟩ : ∃ p, p = M[k] := ⟨_, rfl⟩
      rw [← hp] at hcc htk hs2 hx
      obtain ⟨nm, vl, xe, xr, xu⟩ := p
      simp only at hcc hs2 hx
      obtain ⟨d0, d1, d2, -, d4⟩ := hcc
      have fr0 : ∀ j u, w.cell? ⟨g, j, none⟩ = some u → wr.cell? ⟨g, j, none⟩ = some u := fun j u e => (World.cell?_of_block (a := ⟨g, j, none⟩) (hfr.block g hg (fun h => h))).trans e
      replace d0 := fr0 _ _ d0
      replace d1 := fr0 _ _ d1
      replace d2 := fr0 _ _ d2
      replace d4 := fr0 _ _ d4
      have hlti : (k : Int) < (n : Int) := by omega
      obtain ⟨va, vc, rfl⟩ := own_form hown
      have hskip := hide (show (xe && !xu) = false → REnvRel w M (gk - 1) (.slice va (envL (M.take k)).length vc) (.int .i64 ((k : Int) + 1)) wr from fun h9 => ⟨k + 1, by have := Hgk.out; have := Hn.out; omega, by go_num, by rw [htk, hx, h9]; simpa using hown, hfr⟩)
      clear hp fr0
      cases xe with
      | false =>
        have hs9 := hide (hskip.out rfl)
        clear hown hskip htk hx
        go_wp2_with fail
        go_roundg (gk - 1)
        case measure => have := Hgk.out; have := Hn.out; omega
        case rel => exact hs9.out
      | true =>
        cases xu with
        | true =>
          have hs9 := hide (hskip.out rfl)
          clear hown hskip htk hx
          go_wp2_with fail
          go_roundg (gk - 1)
          case measure => have := Hgk.out; have := Hn.out; omega
          case rel => exact hs9.out
        | false =>
          obtain ⟨q, hq⟩ : ∃ q : ByteArray, q = ⟨nm.toArray⟩ := ⟨_, rfl⟩
          have hqs : q.size ≤ 140737488355328 := by rw [hq]; simpa [ByteArray.size] using hs2.1
          rw [← hq] at d0 hx
          obtain ⟨q1, hq1⟩ : ∃ q1, q1 = q ++ eqS := ⟨_, rfl⟩
          obtain ⟨q2, hq2⟩ : ∃ q2, q2 = q1 ++ vl := ⟨_, rfl⟩
          have hq1s : q1.size = q.size + 1 := by rw [hq1, ByteArray.size_append]; rfl
          have hvl : vl.size ≤ 65536 := hs2.2
          have hcat1 : ∀ w', (Op.stringOp .add q ⟨#[61]⟩).run Try.prog w' = .ok (.string q1) w' := fun w' => by
            rw [hq1]; exact run_string_add_sum w' q eqS (by have : eqS.size = 1 := rfl; omega)
          have hcat2 : ∀ w', (Op.stringOp .add q1 vl).run Try.prog w' = .ok (.string q2) w' := fun w' => by
            rw [hq2]; exact run_string_add_sum w' q1 vl (by omega)
          have htk2 : envL (M.take (k + 1)) = envL (M.take k) ++ [q2] := by rw [htk, hx, hq2, hq1]; rfl
          have Htk2 := hide htk2
          have hlen : (envL (M.take k)).length ≤ 64 := by omega
          clear htk htk2 hx hq hq1 hq2 hq1s hskip hs2 hltM
          go_wp2_with fail
          have hX0 : Fr (fun _ => False) wr wr.drew := (Fr.refl _ _).drew
          have K0 := hide (show ∀ w', Fr (fun _ => False) wr w' → w'.cell? ⟨r, 0, none⟩ = some (.slice (some ⟨g, 0, none⟩) n lc) from fun w' h => Key0.out w' (hfr.trans h))
          have KQ := hide (show ∀ w', Fr (fun _ => False) wr w' → w'.cell? ⟨g, k * 5, none⟩ = some (.string q) from fun w' h => (World.cell?_of_block (a := ⟨g, k * 5, none⟩) (h.block g (World.block_lt_of_cell? _ _ d0) (fun h => h))).trans d0)
          have KV := hide (show ∀ w', Fr (fun _ => False) wr w' → w'.cell? ⟨g, k * 5 + 1, none⟩ = some (.string vl) from fun w' h => (World.cell?_of_block (a := ⟨g, k * 5 + 1, none⟩) (h.block g (World.block_lt_of_cell? _ _ d0) (fun h => h))).trans d1)
          refine region_tree (fun w' => Fr (fun _ => False) wr w') [0, 1, 2, 3, 4, 5, 6, 7, 8, 9, 10, 11, 12, 13, 14, 15, 16, 17, 18] 1 20 (by kernel_rfl) (by kernel_rfl) (fun _ _ d _ _ h => by cases d <;> exact h) hX0 ?_
          simp only [List.map_cons, List.map_nil, List.getD_cons_zero, List.getD_cons_succ, List.drop_succ_cons, List.drop_zero]
          go_big_quiet_step (fail)
          go_big_quiet_step (fail)
          refine wpQuiet_val (.pointer (some ⟨r, 0, none⟩)) rfl (fun w' hS => by (go_simp)) ?_
          simp only [Act.put, List.setIfInBounds_toArray, List.set_cons_succ, List.set_cons_zero]
          refine wpQuiet_val (.pointer (some ⟨r, 0, none⟩)) rfl (fun w' hS => by (go_simp)) ?_
          simp only [Act.put, List.setIfInBounds_toArray, List.set_cons_succ, List.set_cons_zero]
          refine wpQuiet_val (.slice (some ⟨g, 0, none⟩) n lc) rfl (fun w' hS => by (have e2 := K0.out w' hS; go_simp)) ?_
          simp only [Act.put, List.setIfInBounds_toArray, List.set_cons_succ, List.set_cons_zero]
          go_big_quiet_step (fail)
          refine wpQuiet_val (.pointer (some ⟨g, k * 5, none⟩)) rfl (fun w' hS => by (go_simp)) ?_
          simp only [Act.put, List.setIfInBounds_toArray, List.set_cons_succ, List.set_cons_zero]
          refine wpQuiet_val (.pointer (some ⟨g, k * 5, none⟩)) rfl (fun w' hS => by (go_simp)) ?_
          simp only [Act.put, List.setIfInBounds_toArray, List.set_cons_succ, List.set_cons_zero]
          refine wpQuiet_val (.string q) rfl (fun w' hS => by (have e2 := KQ.out w' hS; go_simp)) ?_
          simp only [Act.put, List.setIfInBounds_toArray, List.set_cons_succ, List.set_cons_zero]
          refine wpQuiet_val (.string q1) rfl (fun w' hS => by (have e2 := hcat1 w'; go_simp)) ?_
          simp only [Act.put, List.setIfInBounds_toArray, List.set_cons_succ, List.set_cons_zero]
          go_big_quiet_step (fail)
          refine wpQuiet_val (.pointer (some ⟨r, 0, none⟩)) rfl (fun w' hS => by (go_simp)) ?_
          simp only [Act.put, List.setIfInBounds_toArray, List.set_cons_succ, List.set_cons_zero]
          refine wpQuiet_val (.pointer (some ⟨r, 0, none⟩)) rfl (fun w' hS => by (go_simp)) ?_
          simp only [Act.put, List.setIfInBounds_toArray, List.set_cons_succ, List.set_cons_zero]
          refine wpQuiet_val (.slice (some ⟨g, 0, none⟩) n lc) rfl (fun w' hS => by (have e2 := K0.out w' hS; go_simp)) ?_
          simp only [Act.put, List.setIfInBounds_toArray, List.set_cons_succ, List.set_cons_zero]
          go_big_quiet_step (fail)
          refine wpQuiet_val (.pointer (some ⟨g, k * 5, none⟩)) rfl (fun w' hS => by (go_simp)) ?_
          simp only [Act.put, List.setIfInBounds_toArray, List.set_cons_succ, List.set_cons_zero]
          refine wpQuiet_val (.pointer (some ⟨g, k * 5 + 1, none⟩)) rfl (fun w' hS => by (go_simp)) ?_
          simp only [Act.put, List.setIfInBounds_toArray, List.set_cons_succ, List.set_cons_zero]
          refine wpQuiet_val (.string vl) rfl (fun w' hS => by (have e2 := KV.out w' hS; go_simp)) ?_
          simp only [Act.put, List.setIfInBounds_toArray, List.set_cons_succ, List.set_cons_zero]
          refine wpQuiet_val (.string q2) rfl (fun w' hS => by (have e2 := hcat2 w'; go_simp)) ?_
          simp only [Act.put, List.setIfInBounds_toArray, List.set_cons_succ, List.set_cons_zero]
          refine wpQuiet_nil ?_
          have hfrd := hfr.drew
          have hownd := hown.drew
          generalize wr.drew = wd at hfrd hownd hX0 ⊢
          refine tree_one' 19 (by kernel_rfl) (by decide) (by simp) rfl (fun K hK => ?_)
          simp only [List.getD_cons_zero, List.getD_cons_succ]
          go_wp2_with fail
          refine hK _ _ (hX0.alloc _) ?_
          clear hK K
          refine tree_end (by kernel_rfl) ?_
          have hl9 := hownd.alloc (.cells #[.string q2] 9 (0, 0))
          have hsrc : SrcOk (wd.alloc (.cells #[.string q2] 9 (0, 0))) (some ⟨wd.heap.size, 0, none⟩) 1 1 [.string q2] := .inr ⟨_, rfl, fun j u hj => by rw [Addr.add_lit, Nat.zero_add, blk_cell (blk_new _ _)]; simpa using hj⟩
          go_wp2_with (at_builtin; refine wpList_append_src rfl _ _ 22 rfl w.heap.size 9 i0 _ 1 16 Try.underlying22 hinf hz0 hz1 hz2 rfl (by decide) _ _ _ rfl hl9 (some ⟨wd.heap.size, 0, none⟩) 1 1 [.string q2] rfl rfl hsrc ?qc3 ?qc4 ?qc5 ?qc6 ?_)
          case qc3 => intro u hu; simp at hu; subst hu; rfl
          case qc4 => unfold maxLen; omega
          case qc5 => omega
          case qc6 => have := hfrd.size; simp; omega
          intro v5 w5 hown5 hfr5 hat5
          have hfr9 : Fr (fun _ => False) w w5 := (hfrd.alloc _).trans' hfr5 (fun i hi e => by have := (hownd.lt _ e).1; omega)
          have hnext := hide (show REnvRel w M (gk - 1) v5 (.int .i64 ((k : Int) + 1)) w5 from ⟨k + 1, by have := Hgk.out; have := Hn.out; omega, by go_num, by rw [Htk2.out]; simpa [strs] using hown5, hfr9⟩)
          obtain ⟨a5, c5, rfl⟩ := own_form hown5
          clear hown hownd hl9 hsrc hown5 hfr5 hat5 hfr9
          go_wp2
          go_roundg (gk - 1)
          case measure => have := Hgk.out; have := Hn.out; omega
          case rel => exact hnext.out
    · have hk : k = n := by have := Hgk.out; have := Hn.out; omega
      subst hk
      have htk : M.take k = M := by rw [Hn.out]; exact List.take_length
      rw [htk] at hown
      obtain ⟨va, vc, rfl⟩ := own_form hown
      have hfin := hide (show EnvPost w M (.returned (.slice va (envL M).length vc)) wr from ⟨_, rfl, hown, hfr⟩)
      clear hown htk
      go_wp2_with fail
      go_ret
      exact hfin.out
end Go.Proofs.Ytcojeojmodjmdaa
