/- The document's variables: SetArgs, Shift, Copy. Conditions: each contract's own premises. -/
import Derived.Test.YtcojeojmodjmdaaVarsRefC
namespace Go.Proofs.Ytcojeojmodjmdaa
open Go.RowKit

theorem strs_one {l : List ByteArray} : ∀ u ∈ strs l, u.oneCell' = true := by
  intro u hu
  simp only [strs, List.mem_map] at hu
  obtain ⟨s, _, rfl⟩ := hu
  rfl
theorem ArgsV.src {w : World} {S : Nat → Prop} {a : Option Addr} {n cap : Nat} {l : List ByteArray} (h : ArgsV w S (.slice a n cap) l) : SrcOk w a n cap (strs l) := by
  obtain ⟨a', cap', h1, h2, h3, h4⟩ := h
  cases h1
  cases a with
  | none => have := h3 rfl; exact .inl ⟨rfl, by omega, this⟩
  | some x =>
    right
    refine ⟨x, rfl, fun j u hj => ?_⟩
    rcases h4 with h4 | ⟨g, o, h5, _, _, h8⟩
    · subst h4; simp [strs] at hj
    · cases h5
      rw [Addr.add_lit]
      simp only [strs, List.getElem?_map, Option.map_eq_some_iff] at hj
      obtain ⟨s, hs, rfl⟩ := hj
      obtain ⟨hk, rfl⟩ := List.getElem?_eq_some_iff.1 hs
      exact h8 j hk
theorem ArgsV.cut {w : World} {S : Nat → Prop} {a : Option Addr} {n cap : Nat} {l : List ByteArray} (h : ArgsV w S (.slice a n cap) l) (k : Nat) (hk : k ≤ n) :
    ∃ sa sc, (∀ w', (Instr.sliceAt 22 (.slice a n cap) (some (.int .i64 k)) none none).run Try.prog w' = .ok (.slice sa (n - k) sc) w') ∧ ArgsV w S (.slice sa (n - k) sc) (l.drop k) := by
  have hd := h.drop k hk
  obtain ⟨hn, hc, _⟩ := h.at
  have hsz : ∀ w', (sizeOf 9).run Try.prog w' = .ok 1 w' := fun w' => by kernel_rfl
  have he : Try.prog.elem 22 = 9 := by kernel_rfl
  have ht : Try.prog.underlying 22 = some (.slice (Try.prog.elem 22)) := by rw [he]; exact Try.underlying22
  have key : ∀ w', (Instr.sliceAt 22 (.slice a n cap) (some (.int .i64 k)) none none).run Try.prog w' = .ok (sliced a k n cap 1) w' := fun w' => by
    rw [run_sliceAt_slice (h := ht), run_slice_l (ht := ht) (h0 := by omega) (h1 := by omega), he, hsz]
    simp
  by_cases hck : cap = k
  · refine ⟨a, cap - k, fun w' => by rw [key]; simp [sliced, hck], ?_⟩
    have hl0 : l.drop k = [] := List.drop_of_length_le (by omega)
    rw [hl0]
    exact ⟨a, cap - k, by simp; omega, by simp, fun _ => by omega, .inl rfl⟩
  · exact ⟨_, _, fun w' => by rw [key]; simp [sliced, hck], hd⟩
theorem RvF.newArgs {w w' : World} {r : Nat} {M : KA VR} {args l : List ByteArray} {S : Nat → Prop} {lv av v : Value} (h : RvF w r M args S lv av) (hf : Fr (fun _ => False) w w') (hl : ArgsV w' S v l) :
    RvAt (w'.setCell ⟨r, 1, none⟩ v) r M l S ∧ Fr (fun k => k = r) w (w'.setCell ⟨r, 1, none⟩ v) := by
  have hfs := frSet w' r 1 v
  have h' := h.frame hf (fun _ _ _ e => e)
  refine ⟨⟨lv, v, by rw [blk_set h'.hb]; rfl, own_frame h'.hl hfs (fun g e e2 => ?_), h.ownl, ?_, h.own, fun k hk => h'.up k (by simpa [World.setCell] using hk)⟩, (hf.mono (fun _ _ e => e.elim)).trans hfs⟩
  · subst e2
    rcases h'.hl.2 with ⟨h1, _⟩ | ⟨g', cap, cur, h1, _, hg, _⟩
    · rw [h1] at e; cases e
    · rw [h1] at e
      have e : g' = g := by simpa [Value.ownBlock] using e
      rw [e, h'.hb] at hg
      cases hg
  · obtain ⟨a, cap, h1, h2, h3, h4⟩ := hl
    refine ⟨a, cap, h1, h2, h3, ?_⟩
    by_cases h0 : l = []
    · exact .inl h0
    rcases h4 with h4 | ⟨g, o, h5, h6, h7, h8⟩
    · exact .inl h4
    have hne : g ≠ r := by
      rintro rfl
      have hlen : 0 < l.length := List.length_pos_iff.2 h0
      have h9 := h8 0 hlen
      rw [blk_cell h'.hb] at h9
      obtain ⟨la, lc, rfl, _⟩ := h'.row
      obtain ⟨aa, ac, rfl⟩ := h'.ha.form
      rcases o with _ | _ | o <;> simp at h9
    exact .inr ⟨g, o, h5, h6, by simpa [World.setCell] using h7, fun k hk => (World.cell?_of_block (w := w') (a := ⟨g, o + k, none⟩) (hfs.block g h7 hne)).trans (h8 k hk)⟩
set_option maxRecDepth 100000 in
set_option maxHeartbeats 4000000 in
theorem rsetargs_any (w : World) (r : Nat) (M : KA VR) (args : List ByteArray) (S : Nat → Prop) (h : RvAt w r M args S) (v : Value) (l : List ByteArray) (S' : Nat → Prop) (hv : ArgsV w S' v l) (hlen : l.length ≤ 9223372036854775807) :
    Calls Try.prog 23 #[.pointer (some ⟨r, 0, none⟩), v] w (RSetPost w r M (setargsM l args) S (setargsE l)) := by
  obtain ⟨i0, hinf, hz0, hz1, hz2⟩ := info_parts Try.info9
  obtain ⟨a, cap, rfl⟩ := hv.form
  unfold setargsE setargsM
  by_cases h2 : 200 < l.length
  · rw [if_pos h2, if_pos h2]
    go_enter Try.func23, Try.ntmps23
    go_wp2_with fail
    go_ret
    exact ⟨rfl, h, Fr.refl _ _⟩
  · rw [if_neg h2, if_neg h2]
    obtain ⟨lv, av, hf⟩ := h
    have hsrc := hv.src.frame ((Fr.refl (fun _ => False) w).alloc (.cells #[] 9 (0, 0)))
    have hown0 := World.ownsRow_made (base := w.heap.size) (e := 9) (size := 1) w #[] 0 (Nat.le_refl _) (Nat.zero_le _) (by simp)
    have Hf := hide hf
    have hlt := blk_lt hf.hb
    clear hf
    go_enter Try.func23, Try.ntmps23
    go_wp2_with (at_builtin; refine wpList_append_src rfl _ _ 22 rfl w.heap.size 9 i0 _ 1 16 Try.underlying22 hinf hz0 hz1 hz2 rfl (by decide) _ _ _ rfl hown0 a l.length cap (strs l) rfl ?qc1 hsrc strs_one ?qc4 ?qc5 ?qc6 ?_)
    case qc1 => simp [strs]
    case qc4 => unfold maxLen; omega
    case qc5 => omega
    case qc6 => simp
    intro v5 w5 hown hfr hat
    have hfr5 : Fr (fun _ => False) w w5 := ((Fr.refl _ _).alloc _).trans' hfr (fun i hi e => by simp [Value.ownBlock] at e; omega)
    have ha := own_args (S := S) (by simpa using hown) rfl (fun k hk => Hf.out.up k hk)
    have hnew := Hf.out.newArgs hfr5 ha
    have hb5 := hfr5.get Hf.out.hb (fun h => h)
    have hz5 := blk_frozen hb5
    obtain ⟨av', ac', rfl⟩ := Hf.out.ha.form
    have hc5 : w5.cell? ⟨r, 1, none⟩ = some (.slice av' args.length ac') := by rw [blk_cell hb5]; rfl
    obtain ⟨a5, c5, rfl⟩ := own_form hown
    have hfin := hide (show RSetPost w r M l S 0 (.returned (.int .i64 0)) (w5.setCell ⟨r, 1, none⟩ (.slice a5 l.length c5)) from ⟨rfl, hnew.1, hnew.2⟩)
    clear hnew hown ha hb5 hat hfr
    go_wp2
    go_ret
    exact hfin.out
set_option maxRecDepth 100000 in
set_option maxHeartbeats 4000000 in
theorem rshift_any (w : World) (r : Nat) (M : KA VR) (args : List ByteArray) (S : Nat → Prop) (h : RvAt w r M args S) (n : Int) (hlen : args.length ≤ 200) :
    Calls Try.prog 24 #[.pointer (some ⟨r, 0, none⟩), .int .i64 n] w (RSetPost w r M (shiftM n args) S (shiftE n args)) := by
  obtain ⟨lv, av, hf⟩ := id h
  obtain ⟨a, cap, rfl⟩ := hf.ha.form
  have hc1 : w.cell? ⟨r, 1, none⟩ = some (.slice a args.length cap) := by rw [blk_cell hf.hb]; rfl
  have hz1 := blk_frozen hf.hb
  have hlt := blk_lt hf.hb
  unfold shiftE shiftM
  by_cases h0 : n < 0
  · rw [if_pos (.inl h0), if_pos (.inl h0)]
    go_enter Try.func24, Try.ntmps24
    go_wp2_with fail
    go_ret
    exact ⟨rfl, h, Fr.refl _ _⟩
  by_cases h2 : (args.length : Int) < n
  · rw [if_pos (.inr h2), if_pos (.inr h2)]
    go_enter Try.func24, Try.ntmps24
    go_wp2_with fail
    go_ret
    exact ⟨rfl, h, Fr.refl _ _⟩
  rw [if_neg (by omega), if_neg (by omega)]
  obtain ⟨k, rfl⟩ := Int.eq_ofNat_of_zero_le (Int.not_lt.1 h0)
  have hk : k ≤ args.length := by omega
  obtain ⟨sa, sc, hs, ha⟩ := hf.ha.cut k hk
  have hnew := hf.newArgs (Fr.refl _ _) ha
  rw [Int.toNat_natCast]
  have hfin := hide (show RSetPost w r M (args.drop k) S 0 (.returned (.int .i64 0)) (w.setCell ⟨r, 1, none⟩ (.slice sa (args.length - k) sc)) from ⟨rfl, hnew.1, hnew.2⟩)
  clear hnew ha hf h
  go_enter Try.func24, Try.ntmps24
  go_wp2_with fail
  go_ret
  exact hfin.out
def RCopyPost (w : World) (M : KA VR) (args : List ByteArray) (e : Ending) (w' : World) : Prop :=
  ∃ r', e = .returned (.pointer (some ⟨r', 0, none⟩)) ∧ RvAt w' r' M args (fun k => w.heap.size ≤ k) ∧ Fr (fun _ => False) w w'
set_option maxRecDepth 100000 in
set_option maxHeartbeats 4000000 in
theorem rcopy_any (W1 : World) (r : Nat) (M : KA VR) (args : List ByteArray) (S : Nat → Prop) (h : RvAt W1 r M args S) (hM : M.length ≤ 64) (hlen : args.length ≤ 200) :
    Calls Try.prog 25 #[.pointer (some ⟨r, 0, none⟩)] W1 (RCopyPost W1 M args) := by
  obtain ⟨i0, hinf, hz0, hz1, hz2⟩ := info_parts Try.info67
  obtain ⟨i1, hinf1, hy0, hy1, hy2⟩ := info_parts Try.info9
  obtain ⟨lv, av, hf⟩ := h
  obtain ⟨la, lc, rfl, hlc, hnone, -⟩ := hf.row
  obtain ⟨aa, ac, rfl⟩ := hf.ha.form
  have SH := hide (hf.srcHigh (k := M.length) (Nat.le_refl _) hnone hlc)
  rw [List.take_length] at SH
  have SA := hide hf.ha.src
  have Key0 := hide (show ∀ w', Fr (fun _ => False) W1 w' → w'.cell? ⟨r, 0, none⟩ = some (.slice la M.length lc) from fun w' h => by rw [blk_cell (h.get hf.hb (fun h => h))]; rfl)
  have Key1 := hide (show ∀ w', Fr (fun _ => False) W1 w' → w'.cell? ⟨r, 1, none⟩ = some (.slice aa args.length ac) from fun w' h => by rw [blk_cell (h.get hf.hb (fun h => h))]; rfl)
  have hdone := hide (show ∀ w5 v1 v2, Fr (fun _ => False) W1 w5 → w5.ownsRow W1.heap.size 67 5 v1 M.length (lcells M) → w5.ownsRow W1.heap.size 9 1 v2 args.length (strs args) → RCopyPost W1 M args (.returned (.pointer (some ⟨w5.heap.size, 0, none⟩))) (w5.alloc (.cells #[v1, v2] 46 (0, 0))) from fun w5 v1 v2 h1 h2 h3 => by
    have hfa := (Fr.refl (fun _ => False) w5).alloc (.cells #[v1, v2] 46 (0, 0))
    refine ⟨_, rfl, ⟨v1, v2, blk_new _ _, own_base (own_frame h2 hfa (fun _ _ e => e)) (fun _ _ => Nat.zero_le _), fun g e => (h2.lt g e).1, ?_, h1.size, fun k hk => by have := h1.size; simp at hk; omega⟩, h1.trans hfa⟩
    exact own_args (own_frame h3 hfa (fun _ _ e => e)) rfl (fun k hk => hk))
  clear hf hnone
  go_enter Try.func25, Try.ntmps25
  go_wp2_with fail
  have hX0 : Fr (fun _ => False) W1 W1.drew := (Fr.refl _ _).drew
  refine region_tree (fun w' => Fr (fun _ => False) W1 w') [1, 2, 3, 4, 7, 8, 9, 10] 4 12 (by kernel_rfl) (by kernel_rfl) (fun _ _ d _ _ h => by cases d <;> exact h) hX0 ?_
  simp only [List.map_cons, List.map_nil, List.getD_cons_zero, List.getD_cons_succ, List.drop_succ_cons, List.drop_zero]
  go_big_quiet_step (fail)
  refine wpQuiet_val (.pointer (some ⟨r, 0, none⟩)) rfl (fun w' hS => by (go_simp)) ?_
  simp only [Act.put, List.setIfInBounds_toArray, List.set_cons_succ, List.set_cons_zero]
  refine wpQuiet_val (.pointer (some ⟨r, 0, none⟩)) rfl (fun w' hS => by (go_simp)) ?_
  simp only [Act.put, List.setIfInBounds_toArray, List.set_cons_succ, List.set_cons_zero]
  refine wpQuiet_val (.slice la M.length lc) rfl (fun w' hS => by (have e2 := Key0.out w' hS; go_simp)) ?_
  simp only [Act.put, List.setIfInBounds_toArray, List.set_cons_succ, List.set_cons_zero]
  go_big_quiet_step (fail)
  refine wpQuiet_val (.pointer (some ⟨r, 0, none⟩)) rfl (fun w' hS => by (go_simp)) ?_
  simp only [Act.put, List.setIfInBounds_toArray, List.set_cons_succ, List.set_cons_zero]
  refine wpQuiet_val (.pointer (some ⟨r, 1, none⟩)) rfl (fun w' hS => by (go_simp)) ?_
  simp only [Act.put, List.setIfInBounds_toArray, List.set_cons_succ, List.set_cons_zero]
  refine wpQuiet_val (.slice aa args.length ac) rfl (fun w' hS => by (have e2 := Key1.out w' hS; go_simp)) ?_
  simp only [Act.put, List.setIfInBounds_toArray, List.set_cons_succ, List.set_cons_zero]
  refine wpQuiet_nil ?_
  generalize W1.drew = X0 at hX0 ⊢
  refine tree_two' 0 6 (by kernel_rfl) (by decide) (by decide) (by simp) (by simp) rfl rfl (fun K hK => ?_) (fun K hK => ?_)
  · simp only [List.getD_cons_zero, List.getD_cons_succ]
    go_wp2_with fail
    obtain ⟨X1, eX1⟩ : ∃ Y, Y = X0.alloc (.cells #[] 67 (0, 0)) := ⟨_, rfl⟩
    rw [← eX1]
    have hX1 : Fr (fun _ => False) W1 X1 := by rw [eX1]; exact hX0.alloc _
    have own0 : X1.ownsRow W1.heap.size 67 5 (.slice (some ⟨X0.heap.size, 0, none⟩) 0 0) 0 [] := by rw [eX1]; exact World.ownsRow_made X0 #[] 0 hX0.size (Nat.zero_le _) (by simp)
    have sX1 := hide (show X1.heap.size = X0.heap.size + 1 from by rw [eX1]; simp)
    have EX1 := hide eX1
    clear eX1
    refine hK _ _ hX1 ?_
    clear hK K
    refine tree_two' 5 6 (by kernel_rfl) (by decide) (by decide) (by simp) (by simp) rfl rfl (fun K hK => ?_) (fun K hK => ?_)
    · simp only [List.getD_cons_zero, List.getD_cons_succ]
      refine wp_append_src (.tmp 3) (.tmp 7) 44 rfl W1.heap.size 67 _ _ 5 40 Try.underlying44 hinf hz0 hz1 hz2 rfl (by decide) (.slice (some ⟨X0.heap.size, 0, none⟩) 0 0) 0 [] rfl own0 la M.length lc (lcells M) rfl (lcells_len M) (SH.out.frame hX1) lcells_one ?q2 ?q3 hX1.size ?_
      case q2 => unfold maxLen; omega
      case q3 => omega
      intro v5 X2 own5 frX2 atX2
      have hX2 : Fr (fun _ => False) W1 X2 := hX1.trans' frX2 (fun i hi e => by have := (own0.lt _ e).1; omega)
      have sX2 := frX2.size
      refine hK _ _ hX2 ?_
      clear hK K
      refine tree_one' 6 (by kernel_rfl) (by decide) (by simp) rfl (fun K hK => ?_)
      simp only [List.getD_cons_zero, List.getD_cons_succ]
      go_wp2_with fail
      obtain ⟨X3, eX3⟩ : ∃ Y, Y = X2.alloc (.cells #[] 9 (0, 0)) := ⟨_, rfl⟩
      rw [← eX3]
      have hX3 : Fr (fun _ => False) W1 X3 := by rw [eX3]; exact hX2.alloc _
      have own6 : X3.ownsRow W1.heap.size 9 1 (.slice (some ⟨X2.heap.size, 0, none⟩) 0 0) 0 [] := by rw [eX3]; exact World.ownsRow_made X2 #[] 0 hX2.size (Nat.zero_le _) (by simp)
      have sX3 := hide (show X3.heap.size = X2.heap.size + 1 from by rw [eX3]; simp)
      have EX3 := hide eX3
      clear eX3
      have own5b : X3.ownsRow W1.heap.size 67 5 v5 (0 + M.length) ([] ++ lcells M) := by rw [EX3.out]; exact own5.alloc _
      refine hK _ _ hX3 ?_
      clear hK K
      refine tree_one' 11 (by kernel_rfl) (by decide) (by simp) rfl (fun K hK => ?_)
      simp only [List.getD_cons_zero, List.getD_cons_succ]
      refine wp_append_src (.tmp 9) (.tmp 13) 22 rfl W1.heap.size 9 _ _ 1 16 Try.underlying22 hinf1 hy0 hy1 hy2 rfl (by decide) (.slice (some ⟨X2.heap.size, 0, none⟩) 0 0) 0 [] rfl own6 aa args.length ac (strs args) rfl (by simp [strs]) (SA.out.frame hX3) strs_one ?q2 ?q3 hX3.size ?_
      case q2 => unfold maxLen; omega
      case q3 => omega
      intro v11 X4 own11 frX4 atX4
      have hX4 : Fr (fun _ => False) W1 X4 := hX3.trans' frX4 (fun i hi e => by have := (own6.lt _ e).1; omega)
      have sX4 := frX4.size
      have own5' := own_frame own5b frX4 (fun g e e2 => by have := (own5.lt _ e).2; simp [Value.ownBlock] at e2; omega)
      refine hK _ _ hX4 ?_
      clear hK K
      refine tree_end (by kernel_rfl) ?_
      have hfin := hide (hdone.out _ _ _ hX4 (by simpa using own5') (by simpa using own11))
      obtain ⟨a5, c5, rfl⟩ := own_form own5
      obtain ⟨a6, c6, rfl⟩ := own_form own11
      simp only [List.drop_succ_cons, List.drop_zero]
      simp only [Nat.zero_add] at hfin ⊢
      go_wp2
      first | exact hfin.out | (go_ret; exact hfin.out)
    · simp only [List.getD_cons_zero, List.getD_cons_succ]
      go_wp2_with fail
      obtain ⟨X2, eX2⟩ : ∃ Y, Y = X1.alloc (.cells #[] 9 (0, 0)) := ⟨_, rfl⟩
      rw [← eX2]
      have hX2 : Fr (fun _ => False) W1 X2 := by rw [eX2]; exact hX1.alloc _
      have own6 : X2.ownsRow W1.heap.size 9 1 (.slice (some ⟨X1.heap.size, 0, none⟩) 0 0) 0 [] := by rw [eX2]; exact World.ownsRow_made X1 #[] 0 hX1.size (Nat.zero_le _) (by simp)
      have sX2 := hide (show X2.heap.size = X1.heap.size + 1 from by rw [eX2]; simp)
      have EX2 := hide eX2
      clear eX2
      have own0b : X2.ownsRow W1.heap.size 67 5 (.slice (some ⟨X0.heap.size, 0, none⟩) 0 0) 0 [] := by rw [EX2.out]; exact own0.alloc _
      refine hK _ _ hX2 ?_
      clear hK K
      refine tree_one' 5 (by kernel_rfl) (by decide) (by simp) rfl (fun K hK => ?_)
      simp only [List.getD_cons_zero, List.getD_cons_succ]
      refine wp_append_src (.tmp 3) (.tmp 7) 44 rfl W1.heap.size 67 _ _ 5 40 Try.underlying44 hinf hz0 hz1 hz2 rfl (by decide) (.slice (some ⟨X0.heap.size, 0, none⟩) 0 0) 0 [] rfl own0b la M.length lc (lcells M) rfl (lcells_len M) (SH.out.frame hX2) lcells_one ?q2 ?q3 hX2.size ?_
      case q2 => unfold maxLen; omega
      case q3 => omega
      intro v5 X3 own5 frX3 atX3
      have hX3 : Fr (fun _ => False) W1 X3 := hX2.trans' frX3 (fun i hi e => by have := (own0b.lt _ e).1; omega)
      have sX3 := frX3.size
      have own6b := own_frame own6 frX3 (fun g e e2 => by have := sX1.out; simp [Value.ownBlock] at e e2; omega)
      refine hK _ _ hX3 ?_
      clear hK K
      refine tree_one' 11 (by kernel_rfl) (by decide) (by simp) rfl (fun K hK => ?_)
      simp only [List.getD_cons_zero, List.getD_cons_succ]
      refine wp_append_src (.tmp 9) (.tmp 13) 22 rfl W1.heap.size 9 _ _ 1 16 Try.underlying22 hinf1 hy0 hy1 hy2 rfl (by decide) (.slice (some ⟨X1.heap.size, 0, none⟩) 0 0) 0 [] rfl own6b aa args.length ac (strs args) rfl (by simp [strs]) (SA.out.frame hX3) strs_one ?q2 ?q3 hX3.size ?_
      case q2 => unfold maxLen; omega
      case q3 => omega
      intro v11 X4 own11 frX4 atX4
      have hX4 : Fr (fun _ => False) W1 X4 := hX3.trans' frX4 (fun i hi e => by have := (own6b.lt _ e).1; omega)
      have sX4 := frX4.size
      have own5' := own_frame own5 frX4 (fun g e e2 => by have h1 := sX1.out; have h2 := sX2.out; simp [Value.ownBlock] at e2; rcases atX3 with h | h <;> (rw [h] at e; simp [Value.ownBlock] at e; omega))
      refine hK _ _ hX4 ?_
      clear hK K
      refine tree_end (by kernel_rfl) ?_
      have hfin := hide (hdone.out _ _ _ hX4 (by simpa using own5') (by simpa using own11))
      obtain ⟨a5, c5, rfl⟩ := own_form own5
      obtain ⟨a6, c6, rfl⟩ := own_form own11
      simp only [List.drop_succ_cons, List.drop_zero]
      simp only [Nat.zero_add] at hfin ⊢
      go_wp2
      first | exact hfin.out | (go_ret; exact hfin.out)
  · simp only [List.getD_cons_zero, List.getD_cons_succ]
    go_wp2_with fail
    obtain ⟨X1, eX1⟩ : ∃ Y, Y = X0.alloc (.cells #[] 9 (0, 0)) := ⟨_, rfl⟩
    rw [← eX1]
    have hX1 : Fr (fun _ => False) W1 X1 := by rw [eX1]; exact hX0.alloc _
    have own6 : X1.ownsRow W1.heap.size 9 1 (.slice (some ⟨X0.heap.size, 0, none⟩) 0 0) 0 [] := by rw [eX1]; exact World.ownsRow_made X0 #[] 0 hX0.size (Nat.zero_le _) (by simp)
    have sX1 := hide (show X1.heap.size = X0.heap.size + 1 from by rw [eX1]; simp)
    have EX1 := hide eX1
    clear eX1
    refine hK _ _ hX1 ?_
    clear hK K
    refine tree_one' 0 (by kernel_rfl) (by decide) (by simp) rfl (fun K hK => ?_)
    simp only [List.getD_cons_zero, List.getD_cons_succ]
    go_wp2_with fail
    obtain ⟨X2, eX2⟩ : ∃ Y, Y = X1.alloc (.cells #[] 67 (0, 0)) := ⟨_, rfl⟩
    rw [← eX2]
    have hX2 : Fr (fun _ => False) W1 X2 := by rw [eX2]; exact hX1.alloc _
    have own0 : X2.ownsRow W1.heap.size 67 5 (.slice (some ⟨X1.heap.size, 0, none⟩) 0 0) 0 [] := by rw [eX2]; exact World.ownsRow_made X1 #[] 0 hX1.size (Nat.zero_le _) (by simp)
    have sX2 := hide (show X2.heap.size = X1.heap.size + 1 from by rw [eX2]; simp)
    have EX2 := hide eX2
    clear eX2
    have own6b : X2.ownsRow W1.heap.size 9 1 (.slice (some ⟨X0.heap.size, 0, none⟩) 0 0) 0 [] := by rw [EX2.out]; exact own6.alloc _
    refine hK _ _ hX2 ?_
    clear hK K
    refine tree_one' 5 (by kernel_rfl) (by decide) (by simp) rfl (fun K hK => ?_)
    simp only [List.getD_cons_zero, List.getD_cons_succ]
    refine wp_append_src (.tmp 3) (.tmp 7) 44 rfl W1.heap.size 67 _ _ 5 40 Try.underlying44 hinf hz0 hz1 hz2 rfl (by decide) (.slice (some ⟨X1.heap.size, 0, none⟩) 0 0) 0 [] rfl own0 la M.length lc (lcells M) rfl (lcells_len M) (SH.out.frame hX2) lcells_one ?q2 ?q3 hX2.size ?_
    case q2 => unfold maxLen; omega
    case q3 => omega
    intro v5 X3 own5 frX3 atX3
    have hX3 : Fr (fun _ => False) W1 X3 := hX2.trans' frX3 (fun i hi e => by have := (own0.lt _ e).1; omega)
    have sX3 := frX3.size
    have own6c := own_frame own6b frX3 (fun g e e2 => by have := sX1.out; simp [Value.ownBlock] at e e2; omega)
    refine hK _ _ hX3 ?_
    clear hK K
    refine tree_one' 11 (by kernel_rfl) (by decide) (by simp) rfl (fun K hK => ?_)
    simp only [List.getD_cons_zero, List.getD_cons_succ]
    refine wp_append_src (.tmp 9) (.tmp 13) 22 rfl W1.heap.size 9 _ _ 1 16 Try.underlying22 hinf1 hy0 hy1 hy2 rfl (by decide) (.slice (some ⟨X0.heap.size, 0, none⟩) 0 0) 0 [] rfl own6c aa args.length ac (strs args) rfl (by simp [strs]) (SA.out.frame hX3) strs_one ?q2 ?q3 hX3.size ?_
    case q2 => unfold maxLen; omega
    case q3 => omega
    intro v11 X4 own11 frX4 atX4
    have hX4 : Fr (fun _ => False) W1 X4 := hX3.trans' frX4 (fun i hi e => by have := (own6c.lt _ e).1; omega)
    have sX4 := frX4.size
    have own5' := own_frame own5 frX4 (fun g e e2 => by have h1 := sX1.out; have h2 := sX2.out; simp [Value.ownBlock] at e2; rcases atX3 with h | h <;> (rw [h] at e; simp [Value.ownBlock] at e; omega))
    refine hK _ _ hX4 ?_
    clear hK K
    refine tree_end (by kernel_rfl) ?_
    have hfin := hide (hdone.out _ _ _ hX4 (by simpa using own5') (by simpa using own11))
    obtain ⟨a5, c5, rfl⟩ := own_form own5
    obtain ⟨a6, c6, rfl⟩ := own_form own11
    simp only [List.drop_succ_cons, List.drop_zero]
    simp only [Nat.zero_add] at hfin ⊢
    go_wp2
    first | exact hfin.out | (go_ret; exact hfin.out)
end Go.Proofs.Ytcojeojmodjmdaa
