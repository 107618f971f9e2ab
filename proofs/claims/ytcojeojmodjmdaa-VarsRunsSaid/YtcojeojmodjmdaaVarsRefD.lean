/- The document's variables: Mark, Unset, SetArgs, Shift. Conditions: each contract's own premises. -/
import Derived.Test.YtcojeojmodjmdaaVarsRefC
namespace Go.Proofs.Ytcojeojmodjmdaa
open Go.RowKit

theorem markX_at (M : KA VR) (s : List UInt8) (ex ro : Bool) : markX (kget s M) ex ro = ⟨(atX M s).value, (atX M s).e || ex, (atX M s).r || ro, (atX M s).u⟩ := by
  unfold atX; cases kget s M <;> simp [markX]
set_option maxRecDepth 100000 in
set_option maxHeartbeats 8000000 in
theorem rmark_any (w : World) (r : Nat) (M : KA VR) (args : List ByteArray) (S : Nat → Prop) (h : RvAt w r M args S) (hM : M.length ≤ 64) (hS : KSorted M) (s : ByteArray) (hs : s.size ≤ 9223372036854775807) (ex ro : Bool) :
    Calls Try.prog 22 #[.pointer (some ⟨r, 0, none⟩), .string s, .bool ex, .bool ro] w (RSetPost w r (markM M s.data.toList ex ro) args S (markE M s.data.toList ex ro)) := by
  have hsame : ∀ ev : Int, markE M s.data.toList ex ro = ev → (ev ≠ 0 ∨ (ex = false ∧ ro = false)) → RSetPost w r (markM M s.data.toList ex ro) args S (markE M s.data.toList ex ro) (.returned (.int .i64 ev)) w := by
    intro ev he hne
    rw [show markM M s.data.toList ex ro = M by
      unfold markM; rw [if_neg]
      rintro ⟨h1, h2⟩
      rcases hne with hne | hne
      · rw [he] at h1; exact hne h1
      · exact h2 hne, he]
    exact ⟨rfl, h, Fr.refl _ _⟩
  have hE : markE M s.data.toList ex ro = if nameB s.data.toList = false then 22 else if ex = false ∧ ro = false then 0 else if roomB M s.data.toList = false then 64 else 0 := rfl
  have hput : markE M s.data.toList ex ro = 0 → ¬ (ex = false ∧ ro = false) → ∀ w' w'', Fr (fun _ => False) w w' → PutPost w' r (kput s.data.toList ⟨(atX M s.data.toList).value, (atX M s.data.toList).e || ex, (atX M s.data.toList).r || ro, (atX M s.data.toList).u⟩ M) args S (.returned (.tuple #[])) w'' → RSetPost w r (markM M s.data.toList ex ro) args S (markE M s.data.toList ex ro) (.returned (.int .i64 0)) w'' := by
    intro he hx w' w'' hf hp
    rw [show markM M s.data.toList ex ro = kput s.data.toList ⟨(atX M s.data.toList).value, (atX M s.data.toList).e || ex, (atX M s.data.toList).r || ro, (atX M s.data.toList).u⟩ M by unfold markM; rw [if_pos ⟨he, hx⟩, markX_at], he]
    exact ⟨rfl, hp.2.1, (hf.mono (fun _ _ e => e.elim)).trans hp.2.2⟩
  have Hat := hide (fun (W : World) (h' : RvAt W r M args S) => rat_any W r M args S h' hM s)
  generalize hP : RSetPost w r (markM M s.data.toList ex ro) args S (markE M s.data.toList ex ro) = P at *
  generalize markE M s.data.toList ex ro = E at *
  generalize atX M s.data.toList = X at *
  obtain ⟨xv, xe, xr, xu⟩ := X
  have Hsame := hide hsame
  have HE := hide hE
  have Hput := hide hput
  clear hP hsame hE hput
  cases hn : nameB s.data.toList with
  | false =>
    have hfin := hide (Hsame.out 22 (by rw [HE.out, if_pos hn]) (.inl (by decide)))
    have Hn := hide hn
    go_enter Try.func22, Try.ntmps22
    go_wp2_with fail
    refine (rname_any s hs _).mono ?_
    rintro e w2 ⟨rfl, rfl⟩
    rw [Hn.out]
    clear hn
    go_wp2_with fail
    first | exact hfin.out | (go_ret; exact hfin.out)
  | true =>
    have Hn := hide hn
    clear hn
    by_cases hxr : ex = false ∧ ro = false
    · have hfin := hide (Hsame.out 0 (by rw [HE.out, if_neg (by simp [Hn.out]), if_pos hxr]) (.inr hxr))
      obtain ⟨rfl, rfl⟩ := hxr
      go_enter Try.func22, Try.ntmps22
      go_wp2_with fail
      refine (rname_any s hs _).mono ?_
      rintro e w2 ⟨rfl, rfl⟩
      rw [Hn.out]
      go_wp2_with fail
      first | exact hfin.out | (go_ret; exact hfin.out)
    · have h64 := hide (show roomB M s.data.toList = false → P (.returned (.int .i64 64)) w from fun hro => Hsame.out 64 (by rw [HE.out, if_neg (by simp [Hn.out]), if_neg hxr, if_pos hro]) (.inl (by decide)))
      have h0 := hide (show roomB M s.data.toList = true → ∀ w' w'', Fr (fun _ => False) w w' → PutPost w' r (kput s.data.toList ⟨xv, xe || ex, xr || ro, xu⟩ M) args S (.returned (.tuple #[])) w'' → P (.returned (.int .i64 0)) w'' from fun hro => Hput.out (by rw [HE.out, if_neg (by simp [Hn.out]), if_neg hxr, if_neg (by simp [hro])]) hxr)
      obtain ⟨lv, av, hf⟩ := id h
      obtain ⟨la, lc, rfl, hlc, hnone, hrow⟩ := hf.row
      have c0 : w.cell? ⟨r, 0, none⟩ = some (.slice la M.length lc) := by rw [blk_cell hf.hb]; rfl
      have hfz := blk_frozen hf.hb
      have Hxr := hide hxr
      have Hro1 := hide (show (kget s.data.toList M).isSome = true ∨ M.length < 64 → roomB M s.data.toList = true from fun h => by unfold roomB; rcases h with h | h <;> simp [h])
      have Hro2 := hide (show kget s.data.toList M = none → ¬ M.length < 64 → roomB M s.data.toList = false from fun h1 h2 => by unfold roomB; rw [h1]; simp [h2])
      have Hfind := hide (rfind_any w r M args S h hM s)
      have Hput9 := hide (fun (W : World) (h' : RvAt W r M args S) => rput_any W r M args S h' hM hS s)
      have Hh := hide h
      clear hxr hrow Hsame HE Hput hf hnone h
      cases ex <;> cases ro
      · exact absurd ⟨rfl, rfl⟩ Hxr.out
      all_goals
        clear Hxr
        go_enter Try.func22, Try.ntmps22
        go_wp2_with fail
        refine (rname_any s hs _).mono ?_
        rintro e w2 ⟨rfl, rfl⟩
        rw [Hn.out]
        go_wp2_with fail
        refine Hfind.out.mono ?_
        rintro e w2 ⟨rfl, hfd⟩
        have hway : (∃ k : Nat, e = .returned (.int .i64 k) ∧ roomB M s.data.toList = true) ∨ (e = .returned (.int .i64 (-1)) ∧ (M.length : Int) < 64 ∧ roomB M s.data.toList = true) ∨ (e = .returned (.int .i64 (-1)) ∧ ¬ (M.length : Int) < 64 ∧ roomB M s.data.toList = false) := by
          rcases hfd with ⟨k, hk, rfl, -, hg⟩ | ⟨rfl, hg⟩
          · exact .inl ⟨k, rfl, Hro1.out (.inl (by rw [hg]; rfl))⟩
          · by_cases hl : M.length < 64
            · exact .inr (.inl ⟨rfl, by omega, Hro1.out (.inr hl)⟩)
            · exact .inr (.inr ⟨rfl, by omega, Hro2.out hg hl⟩)
        clear hfd
        rcases hway with ⟨k, rfl, hro⟩ | ⟨rfl, hl, hro⟩ | ⟨rfl, hl, hro⟩
        rotate_left 2
        · have hfin := hide (h64.out hro)
          have hl2 : (64 : Int) ≤ (M.length : Int) := by omega
          clear hro
          go_wp2_with fail
          first | exact hfin.out | (go_ret; exact hfin.out)
        all_goals
          have hp0 := hide (h0.out hro)
          clear hro
          go_wp2_with fail
          refine (Hat.out _ Hh.out).mono ?_
          rintro e w1 ⟨rfl, hf1⟩
          simp only [venc, ba_back]
          cases xe <;> cases xr
          all_goals
            simp only [Bool.or_false, Bool.or_true, Bool.false_or, Bool.true_or] at hp0
            go_wp2_with fail
            refine (Hput9.out _ (Hh.out.frame (hf1.alloc _) (fun _ _ _ e => e)) ⟨xv, _, _, xu⟩).mono ?_
            rintro e w9 hp
            obtain rfl := hp.1
            have hfin := hide (hp0.out _ w9 (hf1.alloc _) hp)
            clear hp
            go_wp2_with fail
            first | exact hfin.out | (go_ret; exact hfin.out)
set_option maxRecDepth 100000 in
set_option maxHeartbeats 8000000 in
theorem runset_any (w : World) (r : Nat) (M : KA VR) (args : List ByteArray) (S : Nat → Prop) (h : RvAt w r M args S) (hM : M.length ≤ 64) (hS : KSorted M) (s : ByteArray) (hs : s.size ≤ 9223372036854775807) :
    Calls Try.prog 21 #[.pointer (some ⟨r, 0, none⟩), .string s] w (RSetPost w r (unsetM M s.data.toList) args S (unsetE M s.data.toList)) := by
  obtain ⟨i0, hinf, hz0, hz1, hz2⟩ := info_parts Try.info67
  have hat := rat_any w r M args S h hM s
  obtain ⟨-, hr⟩ := atX_er M s.data.toList
  have hsame : ∀ ev : Int, unsetE M s.data.toList = ev → (ev ≠ 0 ∨ kget s.data.toList M = none) → ∀ w', Fr (fun _ => False) w w' → RSetPost w r (unsetM M s.data.toList) args S (unsetE M s.data.toList) (.returned (.int .i64 ev)) w' := by
    intro ev he hne w' hf
    rw [show unsetM M s.data.toList = M by
      unfold unsetM
      rcases hne with hne | hne
      · rw [if_neg (by rw [he]; exact hne)]
      · split
        · exact kdel_same hne
        · rfl, he]
    exact ⟨rfl, h.frame hf (fun _ _ _ e => e), hf.mono (fun _ _ e => e.elim)⟩
  have hE : unsetE M s.data.toList = if nameB s.data.toList = false then 22 else if (atX M s.data.toList).r = true then 63 else 0 := by rw [hr]; rfl
  have hdel : unsetE M s.data.toList = 0 → unsetM M s.data.toList = kdel s.data.toList M := fun he => by unfold unsetM; rw [if_pos he]
  cases hn : nameB s.data.toList with
  | false =>
    have hfin := hide (hsame 22 (by rw [hE, if_pos hn]) (.inl (by decide)) w (Fr.refl _ _))
    generalize RSetPost w r (unsetM M s.data.toList) args S (unsetE M s.data.toList) = P at *
    have Hn := hide hn
    clear hn hE hsame hdel hat hr
    go_enter Try.func21, Try.ntmps21
    go_wp2_with fail
    refine (rname_any s hs _).mono ?_
    rintro e w2 ⟨rfl, rfl⟩
    rw [Hn.out]
    go_wp2_with fail
    first | exact hfin.out | (go_ret; exact hfin.out)
  | true =>
    have Hn := hide hn
    clear hn
    cases hrx : (atX M s.data.toList).r with
    | true =>
      have hfin := hide (hsame 63 (by rw [hE, if_neg (by simp [Hn.out]), if_pos hrx]) (.inl (by decide)))
      generalize RSetPost w r (unsetM M s.data.toList) args S (unsetE M s.data.toList) = P at *
      clear hE hsame hdel hr
      generalize atX M s.data.toList = X at *
      obtain ⟨xv, xe, xr, xu⟩ := X
      simp only at hrx
      subst hrx
      simp only [venc, ba_back] at hat
      have hfl3 := field3
      go_enter Try.func21, Try.ntmps21
      go_wp2_with fail
      refine (rname_any s hs _).mono ?_
      rintro e w2 ⟨rfl, rfl⟩
      rw [Hn.out]
      go_wp2_with fail
      refine hat.mono ?_
      rintro e w1 ⟨rfl, hf1⟩
      have hfin := hide (hfin.out _ hf1)
      go_wp2_with fail
      first | exact hfin.out | (go_ret; exact hfin.out)
    | false =>
      have hE0 : unsetE M s.data.toList = 0 := by rw [hE, if_neg (by simp [Hn.out]), if_neg (by simp [hrx])]
      have hfin0 := hide (hsame 0 hE0 · · ·)
      have hdel := hdel hE0
      have hdone := hide (show ∀ w1, Fr (fun _ => False) w w1 → ∀ k (hk : k < M.length), M[k].1 = s.data.toList → ∀ lv av, RvF w1 r M args S lv av → ∀ w5 v5 n5, n5 = (M.take k ++ M.drop (k + 1)).length → w5.ownsRow w1.heap.size 67 5 v5 n5 (lcells (M.take k ++ M.drop (k + 1))) → Fr (fun _ => False) w1 w5 → RSetPost w r (unsetM M s.data.toList) args S (unsetE M s.data.toList) (.returned (.int .i64 0)) (w5.setCell ⟨r, 0, none⟩ v5) from fun w1 hf1 k hk he lv av hf w5 v5 n5 h0 h1 h2 => by
        subst h0
        have h3 := hf.newList h2 h1
        rw [hE0, hdel, kdel_found hk hS he]
        exact ⟨rfl, h3.1, (hf1.mono (fun _ _ e => e.elim)).trans h3.2⟩)
      generalize RSetPost w r (unsetM M s.data.toList) args S (unsetE M s.data.toList) = P at *
      clear hE hsame hdel hr hE0
      generalize atX M s.data.toList = X at *
      obtain ⟨xv, xe, xr, xu⟩ := X
      simp only at hrx
      subst hrx
      simp only [venc, ba_back] at hat
      have hfl3 := field3
      go_enter Try.func21, Try.ntmps21
      go_wp2_with fail
      refine (rname_any s hs _).mono ?_
      rintro e w2 ⟨rfl, rfl⟩
      rw [Hn.out]
      go_wp2_with fail
      refine hat.mono ?_
      rintro e W1 ⟨rfl, hf1⟩
      have ha := h.frame hf1 (fun _ _ _ e => e)
      go_wp2_with fail
      refine (rfind_any _ _ _ _ _ ha hM s).mono ?_
      rintro e w2 ⟨rfl, (⟨k, hk, rfl, he, hg⟩ | ⟨rfl, hg⟩)⟩
      rotate_left
      · have hfin := hide (hfin0.out (.inr hg) _ hf1)
        clear hg
        go_wp2_with fail
        first | exact hfin.out | (go_ret; exact hfin.out)
      obtain ⟨lv, av, hf⟩ := ha
      have hd2 := hide (hdone.out _ hf1 k hk he _ _ hf)
      obtain ⟨la, lc, rfl, hlc, hnone, hrow⟩ := hf.row
      have Hf := hide hf
      have SH := hide (hf.srcHigh (k := k) (by omega) hnone hlc)
      have Key0 := hide (show ∀ w', Fr (fun _ => False) W1 w' → w'.cell? ⟨r, 0, none⟩ = some (.slice la M.length lc) from fun w' h => by rw [blk_cell (h.get hf.hb (fun h => h))]; rfl)
      obtain ⟨sa, sc, hcl, hsc⟩ := cut_low (la := la) (n := M.length) (k := k + 1) (by omega) hlc hnone
      have SL := hide (hf.srcLow (k := k + 1) (by omega) hnone hlc (sa := sa) (sc := sc) hsc)
      have Hch := hide (cut_high (la := la) (k := k) (by omega : k ≤ M.length) hlc)
      have Hcl := hide (show ∀ w', (Instr.sliceAt 44 (.slice la M.length lc) (some (.int .i64 ((k : Int) + 1))) none none).run Try.prog w' = .ok (.slice sa (M.length - (k + 1)) sc) w' from fun w' => by have := hcl w'; rwa [Int.natCast_add] at this)
      have hkn : k < M.length := hk
      obtain ⟨n, hn⟩ : ∃ n, n = M.length := ⟨_, rfl⟩
      rw [← hn] at Key0 hlc hM SL Hch Hcl hkn
      have Hn2 := hide hn
      clear hrow hf hnone hn hcl hsc hfin0 hdone hat
      go_wp2_with fail
      have hX0 : Fr (fun _ => False) W1 W1.drew := (Fr.refl _ _).drew
      refine region_tree (fun w' => Fr (fun _ => False) W1 w') [0, 2, 3, 4, 5, 6, 7, 9, 10, 11, 12, 13, 14, 15] 3 17 (by kernel_rfl) (by kernel_rfl) (fun _ _ d _ _ h => by cases d <;> exact h) hX0 ?_
      simp only [List.map_cons, List.map_nil, List.getD_cons_zero, List.getD_cons_succ, List.drop_succ_cons, List.drop_zero]
      go_big_quiet_step (fail)
      go_big_quiet_step (fail)
      refine wpQuiet_val (.pointer (some ⟨r, 0, none⟩)) rfl (fun w' hS => by (go_simp)) ?_
      simp only [Act.put, List.setIfInBounds_toArray, List.set_cons_succ, List.set_cons_zero]
      refine wpQuiet_val (.pointer (some ⟨r, 0, none⟩)) rfl (fun w' hS => by (go_simp)) ?_
      simp only [Act.put, List.setIfInBounds_toArray, List.set_cons_succ, List.set_cons_zero]
      refine wpQuiet_val (.slice la n lc) rfl (fun w' hS => by (have e2 := Key0.out w' hS; go_simp)) ?_
      simp only [Act.put, List.setIfInBounds_toArray, List.set_cons_succ, List.set_cons_zero]
      go_big_quiet_step (fail)
      refine wpQuiet_val (.slice la k lc) rfl (fun w' hS => by (have e2 := Hch.out w'; go_simp)) ?_
      simp only [Act.put, List.setIfInBounds_toArray, List.set_cons_succ, List.set_cons_zero]
      go_big_quiet_step (fail)
      refine wpQuiet_val (.pointer (some ⟨r, 0, none⟩)) rfl (fun w' hS => by (go_simp)) ?_
      simp only [Act.put, List.setIfInBounds_toArray, List.set_cons_succ, List.set_cons_zero]
      refine wpQuiet_val (.pointer (some ⟨r, 0, none⟩)) rfl (fun w' hS => by (go_simp)) ?_
      simp only [Act.put, List.setIfInBounds_toArray, List.set_cons_succ, List.set_cons_zero]
      refine wpQuiet_val (.slice la n lc) rfl (fun w' hS => by (have e2 := Key0.out w' hS; go_simp)) ?_
      simp only [Act.put, List.setIfInBounds_toArray, List.set_cons_succ, List.set_cons_zero]
      go_big_quiet_step (fail)
      refine wpQuiet_val (.int .i64 ((k : Int) + 1)) rfl (fun w' hS => by (go_simp; exact IntWalk.i64_in _ ⟨by omega, by omega⟩)) ?_
      simp only [Act.put, List.setIfInBounds_toArray, List.set_cons_succ, List.set_cons_zero]
      refine wpQuiet_val (.slice sa (n - (k + 1)) sc) rfl (fun w' hS => by (have e2 := Hcl.out w'; go_simp)) ?_
      simp only [Act.put, List.setIfInBounds_toArray, List.set_cons_succ, List.set_cons_zero]
      refine wpQuiet_nil ?_
      generalize W1.drew = X0 at hX0 ⊢
      refine tree_one' 1 (by kernel_rfl) (by decide) (by simp) rfl (fun K hK => ?_)
      simp only [List.getD_cons_zero, List.getD_cons_succ]
      go_wp2_with fail
      obtain ⟨X1, eX1⟩ : ∃ Y, Y = X0.alloc (.cells #[] 67 (0, 0)) := ⟨_, rfl⟩
      rw [← eX1]
      have hX1 : Fr (fun _ => False) W1 X1 := by rw [eX1]; exact hX0.alloc _
      have own1 : X1.ownsRow W1.heap.size 67 5 (.slice (some ⟨X0.heap.size, 0, none⟩) 0 0) 0 [] := by rw [eX1]; exact World.ownsRow_made X0 #[] 0 hX0.size (Nat.zero_le _) (by simp)
      have sX1 := hide (show X1.heap.size = X0.heap.size + 1 from by rw [eX1]; simp)
      have EX1 := hide eX1
      clear eX1
      refine hK _ _ hX1 ?_
      clear hK K
      refine tree_one' 8 (by kernel_rfl) (by decide) (by simp) rfl (fun K hK => ?_)
      simp only [List.getD_cons_zero, List.getD_cons_succ]
      refine wp_append_src (.tmp 21) (.tmp 27) 44 rfl W1.heap.size 67 _ _ 5 40 Try.underlying44 hinf hz0 hz1 hz2 rfl (by decide) (.slice (some ⟨X0.heap.size, 0, none⟩) 0 0) 0 [] rfl own1 la k lc (lcells (M.take k)) rfl (by have := Hn2.out; rw [lcells_len, List.length_take]; omega) (SH.out.frame hX1) lcells_one ?q2 ?q3 hX1.size ?_
      case q2 => unfold maxLen; omega
      case q3 => omega
      intro v2 X2 own2 frX2 atX2
      have hX2 : Fr (fun _ => False) W1 X2 := hX1.trans' frX2 (fun i hi e => by have := (own1.lt _ e).1; omega)
      have sX2 := frX2.size
      refine hK _ _ hX2 ?_
      clear hK K
      refine tree_one' 16 (by kernel_rfl) (by decide) (by simp) rfl (fun K hK => ?_)
      simp only [List.getD_cons_zero, List.getD_cons_succ]
      refine wp_append_src (.tmp 28) (.tmp 35) 44 rfl W1.heap.size 67 _ _ 5 40 Try.underlying44 hinf hz0 hz1 hz2 rfl (by decide) v2 (0 + k) ([] ++ lcells (M.take k)) rfl own2 sa (n - (k + 1)) sc (lcells (M.drop (k + 1))) rfl (by have := Hn2.out; rw [lcells_len, List.length_drop]; omega) (SL.out.frame hX2) lcells_one ?q2 ?q3 hX2.size ?_
      case q2 => unfold maxLen; omega
      case q3 => omega
      intro v3 X3 own3 frX3 atX3
      have hX3 : Fr (fun _ => False) W1 X3 := hX2.trans' frX3 (fun i hi e => by have := (own2.lt _ e).1; omega)
      have sX3 := frX3.size
      refine hK _ _ hX3 ?_
      clear hK K
      refine tree_end (by kernel_rfl) ?_
      obtain ⟨a3, c3, rfl⟩ := own_form own3
      have hfin := hide (hd2.out _ _ (0 + k + (n - (k + 1))) (by have := Hn2.out; simp only [List.length_append, List.length_take, List.length_drop]; omega) (by simpa [lcells_append] using own3) hX3)
      have hb9 := hX3.get Hf.out.hb (fun h => h)
      have hfz := blk_frozen hb9
      have c9 : X3.cell? ⟨r, 0, none⟩ = some (.slice la n lc) := by rw [blk_cell hb9, Hn2.out]; rfl
      simp only [List.drop_succ_cons, List.drop_zero]
      clear own3 hb9 hd2
      go_wp2
      first | exact hfin.out | (go_ret; exact hfin.out)
end Go.Proofs.Ytcojeojmodjmdaa
