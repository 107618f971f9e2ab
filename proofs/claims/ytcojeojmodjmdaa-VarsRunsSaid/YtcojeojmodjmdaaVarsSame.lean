/- Contract of shyardlaw14.same. Conditions: both have the same variables and parameters. -/
import Derived.Test.YtcojeojmodjmdaaVarsRefG
import Derived.Test.YtcojeojmodjmdaaVarsF
import Derived.Deep.RegionHeld3
namespace Go.Proofs.Ytcojeojmodjmdaa
open Go.RowKit Go.Shelf Go.Maps

attribute [local go_sem] Oper.semAt_some

def noPanicV (Q : Exit → Act → World → Prop) : Exit → Act → World → Prop
  | .panic _, _, _ => False
  | e, a, w => Q e a w
theorem noPanicV_normal {Q : Exit → Act → World → Prop} {a : Act} {w : World} (h : Q .normal a w) : noPanicV Q .normal a w := h
theorem wp_noPanicV {P : Program} {c : Code} {Q : Exit → Act → World → Prop} {a : Act} {w : World} (h : c.wp P (noPanicV Q) a w) : c.wp P Q a w :=
  wp_mono h fun e _ _ h1 => by cases e <;> first | exact h1 | exact h1.elim
structure VSameI (w : World) (b r : Nat) (M : KA VR) (s : Nat) (A : Nat → Prop) (W : World) : Prop where
  le : s ≤ M.length
  lo : ∀ k, k < w.heap.size + 7 → A k
  b2 : W.heap[w.heap.size]? = some (.cells #[.pointer (some ⟨b, 0, none⟩)] 24 (0, 0))
  b3 : W.heap[w.heap.size + 1]? = some (.cells #[.pointer (some ⟨r, 0, none⟩)] 43 (0, 0))
  b4 : W.heap[w.heap.size + 2]? = some (.cells #[.bool false] 4 (0, 0))
  b5 : W.heap[w.heap.size + 3]? = some (.cells #[.int .i64 s] 3 (0, 0))
  bi : W.heap[w.heap.size + 4]? = some (.cells #[.pointer (some ⟨b, 0, none⟩)] 24 (0, 0))
  fr : Fr (fun _ => False) w W
theorem VSameI.frame {w W W' : World} {b r : Nat} {M : KA VR} {s : Nat} {A : Nat → Prop} (h : VSameI w b r M s A W) (hf : Fr (fun k => k = w.heap.size + 5 ∨ k = w.heap.size + 6 ∨ ¬ A k) W W') : VSameI w b r M s A W' := by
  have hno : ∀ k, k < w.heap.size + 5 → ¬ (k = w.heap.size + 5 ∨ k = w.heap.size + 6 ∨ ¬ A k) := fun k h1 e => by
    rcases e with e | e | e
    · omega
    · omega
    · exact e (h.lo k (by omega))
  exact ⟨h.le, h.lo, hf.get h.b2 (hno _ (by omega)), hf.get h.b3 (hno _ (by omega)), hf.get h.b4 (hno _ (by omega)), hf.get h.b5 (hno _ (by omega)), hf.get h.bi (hno _ (by omega)), h.fr.trans' hf (fun i hi e => hno _ (by omega) e)⟩
def sactx (b r h : Nat) (x : List UInt8 × VR) (xb : Nat) : Act := { tmps := #[.pointer (some ⟨b, 0, none⟩), .pointer (some ⟨r, 0, none⟩), .pointer (some ⟨h, 0, none⟩), .pointer (some ⟨h + 1, 0, none⟩), .pointer (some ⟨h + 1 + 1, 0, none⟩), .pointer (some ⟨h + 1 + 1 + 1, 0, none⟩), .pointer (some ⟨xb, 0, none⟩), undef, undef, .pointer (some ⟨b, 0, none⟩), .func (.func 38) #[] #[.pointer (some ⟨h + 1 + 1 + 1 + 1, 0, none⟩)], venc x.1 x.2,
  undef, undef, undef, undef, undef, undef, undef, undef, undef, undef, undef, undef, undef, undef, undef, undef, undef, undef, undef, undef, undef, undef, undef, undef, undef, undef, undef, undef, undef, undef, undef, undef, undef, undef, undef, undef, undef, undef, undef, undef, undef, undef, undef, undef, undef, undef, undef, undef, undef, undef, undef, undef, undef, undef, undef, undef, undef, undef, undef, undef], defers := [] }
set_option maxRecDepth 100000 in
set_option maxHeartbeats 4000000 in
theorem vsame_any (w : World) (b r : Nat) (M : KA VR) (args : List ByteArray) (S S' : Nat → Prop) (h : VarsAt w b M args S) (h' : RvAt w r M args S') (hlen : args.length ≤ 200) :
    Calls Try.prog 27 #[.pointer (some ⟨b, 0, none⟩), .pointer (some ⟨r, 0, none⟩)] w fun e w' => e = .returned (.bool true) ∧ Fr (fun _ => False) w w' := by
  obtain ⟨mb, av, hv⟩ := id h
  obtain ⟨lv, rav, hr⟩ := id h'
  refine (callsIn_wide (n := 8)).1 ?_
  refine callsIn_of_wp_marks Try.func27 rfl trivial ?_ rfl
  simp only [Try.ntmps27, List.size_toArray, List.length_cons, List.length_nil, Nat.reduceAdd, Nat.reduceSub, Array.replicate_succ, Array.replicate_zero, List.push_toArray, List.append_toArray, List.nil_append, List.cons_append]
  gi_wp2_with (refine ⟨trivial, ?_⟩; gi_at_call 28; refine (callsIn_wide.2 (all_any _ _)).mono ?_; rintro e w' ⟨rfl, rfl⟩)
  have hI0 : ∀ w1, w1 = (((((w.alloc (.cells #[.pointer (some ⟨b, 0, none⟩)] 24 (0, 0))).alloc (.cells #[.pointer (some ⟨r, 0, none⟩)] 43 (0, 0))).alloc (.cells #[.bool false] 4 (0, 0))).alloc (.cells #[.int .i64 0] 3 (0, 0))).alloc (.cells #[.pointer (some ⟨b, 0, none⟩)] 24 (0, 0))) → VSameI w b r M 0 (fun k => k < w1.heap.size + 2) w1 ∧ w1.heap.size = w.heap.size + 5 := by
    rintro w1 rfl
    exact ⟨⟨by omega, fun k hk => by simp; omega, blk_alloc (blk_alloc (blk_alloc (blk_alloc (blk_new _ _) _) _) _) _, blk_alloc (blk_alloc (blk_alloc (blk_new' _ _ _ (by simp)) _) _) _,
     blk_alloc (blk_alloc (blk_new' _ _ _ (by simp)) _) _, blk_alloc (blk_new' _ _ _ (by simp)) _, blk_new' _ _ _ (by simp), (((((Fr.refl _ _).alloc _).alloc _).alloc _).alloc _).alloc _⟩, by simp⟩
  generalize (((((w.alloc (.cells #[.pointer (some ⟨b, 0, none⟩)] 24 (0, 0))).alloc (.cells #[.pointer (some ⟨r, 0, none⟩)] 43 (0, 0))).alloc (.cells #[.bool false] 4 (0, 0))).alloc (.cells #[.int .i64 0] 3 (0, 0))).alloc (.cells #[.pointer (some ⟨b, 0, none⟩)] 24 (0, 0))) = w1 at *
  obtain ⟨hI0, hz⟩ := hI0 _ rfl
  have hM := hv.len
  refine rf_law3 (α := List UInt8 × VR) (σ := Nat) 38 #[.pointer (some ⟨w.heap.size + 4, 0, none⟩)] rfl (enters_of Try.func38 (by kernel_rfl) rfl) venc2 (fun _ => rfl)
    (OStep id (fun s => s + 1) M) (OFin id M) 0 (VSameI w b r M) (fun _ _ _ => False)
    (fun s A X Y h1 hf => h1.frame (by rw [hz] at hf; exact hf)) ?hImono (fun _ _ _ _ h _ => h) (fun _ _ _ _ h _ => h) hI0 ?hiter
    (fun x a' W' => ∃ xb : Nat, a' = sactx b r w.heap.size x xb ∧ w1.heap.size + 2 ≤ xb ∧ W'.heap[xb]? = some (.cells #[.string ⟨x.1.toArray⟩, .string x.2.value, .bool x.2.e, .bool x.2.r, .bool x.2.u] 67 (0, 0))) ?hAx ?assign ?body ?done ?stop
  case hImono =>
    rintro s A A' X h1 hA
    exact ⟨h1.le, fun k hk => hA _ (h1.lo k hk), h1.b2, h1.b3, h1.b4, h1.b5, h1.bi, h1.fr⟩
  case hiter =>
    intro l' J' Jx' W' hJI' hJf' hJxf' hJA' hY' h0'
    refine vall1_iter (8 - 1) (by omega) (w.heap.size + 4) b mb id (fun s => s + 1) (fun _ => rfl) M hM (VSameI w b r M) ?_ 0 rfl l' J' Jx' W' hJI' hJf' hJxf' hJA' hY' h0'
    intro s A X h1
    have hvX := hv.frame h1.fr (fun _ _ _ e => e)
    exact ⟨hvX.hm, by rw [blk_cell hvX.hb]; rfl, by rw [blk_cell h1.bi]; rfl⟩
  case hAx =>
    rintro x a' X Y ⟨xb, h1, h2, h5⟩ hf
    exact ⟨xb, h1, h2, hf.get h5 (by omega)⟩
  case assign =>
    rintro l' s A x s' X K _ _ hsz hK
    obtain ⟨nm, vl, e, rr, u⟩ := x
    have hK := hide hK
    simp only [venc2, venc]
    gi_wp2
    exact hK.out _ _ ((Fr.refl _ _).alloc _) ⟨X.heap.size, rfl, hsz, blk_new _ _⟩
  case body =>
    rintro l' s A x s' a' X ⟨hlt, hxx, rfl⟩ hI ⟨xb, rfl, g11, g12⟩ hsz hA0 hA1
    simp only [id] at hlt hxx
    have hget := kget_at hv.sorted hlt
    rw [← hxx] at hget
    have hrX := hr.frame hI.fr (fun _ _ _ e => e)
    obtain ⟨la, lc, rfl, hlc, hnone, hrow⟩ := hrX.row
    obtain ⟨g, rfl, hgr, hgl, hc⟩ := hrow.resolve_left (by omega)
    obtain ⟨d0, d1, d2, d3, d4⟩ := hc s hlt
    rw [← hxx] at d0 d1 d2 d3 d4
    have hvX : VarsAt X b M args S := ⟨mb, av, hv.frame hI.fr (fun _ _ _ e => e)⟩
    have hs2 := hv.sz M[s] (List.getElem_mem hlt)
    rw [← hxx] at hs2
    have c0 : X.cell? ⟨r, 0, none⟩ = some (.slice (some ⟨g, 0, none⟩) M.length lc) := by rw [blk_cell hrX.hb]; rfl
    clear hc hrow hxx
    obtain ⟨nm, vl, e, rr, u⟩ := x
    simp only at d0 d1 d2 d3 d4 hget hs2 g12
    obtain ⟨le, lo, b2, b3, b4, b5, bi, fr⟩ := hI
    have hnl : (⟨nm.toArray⟩ : ByteArray).size ≤ 9223372036854775807 := by have := hs2.1; simp only [ByteArray.size, List.size_toArray]; omega
    have hgc := vget_any X.drew b M args S (hvX.frame ((Fr.refl (fun _ => False) _).drew) (fun _ _ _ e => e)) ⟨nm.toArray⟩ hnl
    rw [hget] at hgc
    simp only [getR] at hgc
    have c2 : X.cell? ⟨w.heap.size, 0, none⟩ = some (.pointer (some ⟨b, 0, none⟩)) := by rw [blk_cell b2]; rfl
    have c3 : X.cell? ⟨w.heap.size + 1, 0, none⟩ = some (.pointer (some ⟨r, 0, none⟩)) := by rw [blk_cell b3]; rfl
    have c5 : X.cell? ⟨w.heap.size + 1 + 1 + 1, 0, none⟩ = some (.int .i64 s) := by rw [blk_cell b5]; rfl
    have x0 : X.cell? ⟨xb, 0, none⟩ = some (.string ⟨nm.toArray⟩) := by rw [blk_cell g12]; rfl
    have x1 : X.cell? ⟨xb, 1, none⟩ = some (.string vl) := by rw [blk_cell g12]; rfl
    have x2 : X.cell? ⟨xb, 2, none⟩ = some (.bool e) := by rw [blk_cell g12]; rfl
    have x3 : X.cell? ⟨xb, 3, none⟩ = some (.bool rr) := by rw [blk_cell g12]; rfl
    have x4 : X.cell? ⟨xb, 4, none⟩ = some (.bool u) := by rw [blk_cell g12]; rfl
    have hlti : decide (M.length ≤ s) = false := decide_eq_false (by omega)
    have hlts : (s : Int) < (M.length : Int) := by omega
    unfold sactx
    simp only [venc]
    have Hlt := hide hlt
    have hX1 : Fr (fun _ => False) X X.drew := (Fr.refl _ _).drew
    generalize (⟨nm.toArray⟩ : ByteArray) = q at *
    gi_wp2_with fail
    refine round_any (by kernel_rfl) (by kernel_rfl) ?hlo ?_
    case hlo => exact fun ⟨_, _, h9⟩ => h9
    refine any_mix [] [0,1,2,3,4,5,6,7,8,9,10,11,12,13,14,15,16] 17 (by kernel_rfl) (fun _ _ d _ _ h => by cases d <;> exact h) ?_
    simp only [List.map_cons, List.map_nil, List.getD_cons_zero, List.getD_cons_succ, List.drop_succ_cons, List.drop_zero]
    refine wpQuiet_nil ?_
    repeat go_big_quiet_step (fail)
    refine wpQuiet_nil ?_
    have hgc := hide hgc
    go_wp2
    gi_wp2_with (refine ⟨trivial, ?_⟩; gi_at_call 19; refine (CallsIn.inRound l' (callsIn_wide.2 hgc.out)).mono ?_)
    rintro e9 w2 ⟨rfl, hf2⟩
    have hf2' : Fr (fun _ => False) X w2 := hX1.trans hf2
    have g2 := hf2'.get g12 (fun h => h)
    have y1 : w2.cell? ⟨xb, 1, none⟩ = some (.string vl) := by rw [blk_cell g2]; rfl
    have y4 : w2.cell? ⟨xb, 4, none⟩ = some (.bool u) := by rw [blk_cell g2]; rfl
    have n5 := hf2'.get b5 (fun h => h)
    have y5 : w2.cell? ⟨w.heap.size + 1 + 1 + 1, 0, none⟩ = some (.int .i64 s) := by rw [blk_cell n5]; rfl
    have z5 : w2.frozen? ⟨w.heap.size + 1 + 1 + 1, 0, none⟩ = false := blk_frozen n5 0
    have hset := frSet w2 (w.heap.size + 3) 0 (.int .i64 ((s : Int) + 1))
    have hs2' := hf2'.size
    have hfin := hide (show rfPost3 w1.heap.size A (VSameI w b r M) (fun _ _ _ => False) (s + 1) X .normal ⟨#[], []⟩ (w2.setCell ⟨w.heap.size + 1 + 1 + 1, 0, none⟩ (.int .i64 ((s : Int) + 1))) from by
      have hall : Fr A X (w2.setCell ⟨w.heap.size + 3, 0, none⟩ (.int .i64 ((s : Int) + 1))) := (hf2'.mono (fun _ _ e => e.elim)).trans (hset.mono (fun k _ e => e ▸ lo _ (by omega)))
      refine ⟨⟨?_, ?_⟩, hall, by have := Hlt.out; omega, fun k hk => .inl (lo k hk), blk_set_other (hf2'.get b2 (fun h => h)) _ _ (by simp <;> omega), blk_set_other (hf2'.get b3 (fun h => h)) _ _ (by simp <;> omega), blk_set_other (hf2'.get b4 (fun h => h)) _ _ (by simp <;> omega), ?_, blk_set_other (hf2'.get bi (fun h => h)) _ _ (by simp <;> omega), ?_⟩
      · rw [Below.heap_setCell _ _ _ _ (by simp; omega)]; exact hf2'.block _ (by omega) (fun e => e)
      · rw [Below.heap_setCell _ _ _ _ (by simp; omega)]; exact hf2'.block _ (by omega) (fun e => e)
      · rw [blk_set n5]; rfl
      · exact (fr.trans hf2').trans' hset (fun i hi e => by omega))
    have hsz' : (s : Int) ≤ 64 := by omega
    clear hset n5 g2 hf2' b2 b3 b4 b5 bi fr hgc x0 x1 x2 x3 x4 c2 c3 c5 d0 d1 d2 d3 d4
    cases u
    all_goals
      gi_wp2
      exact hfin.out
  case stop =>
    rintro c A W h9 _
    exact h9.elim
  case done =>
    rintro s A X hfin hI hK
    obtain rfl : s = M.length := by unfold OFin at hfin; simpa [id] using hfin
    obtain ⟨le, lo, b2, b3, b4, b5, bi, fr⟩ := hI
    have hvX : VarsAt X b M args S := ⟨mb, av, hv.frame fr (fun _ _ _ e => e)⟩
    have hrX := hr.frame fr (fun _ _ _ e => e)
    obtain ⟨la, lc, rfl, hlc, hnone, -⟩ := hrX.row
    obtain ⟨ra, rc, rfl⟩ := hrX.ha.form
    have KS := hide (show ∀ W', Fr (fun _ => False) X W' → W'.cell? ⟨w.heap.size, 0, none⟩ = some (.pointer (some ⟨b, 0, none⟩)) ∧ W'.cell? ⟨w.heap.size + 1, 0, none⟩ = some (.pointer (some ⟨r, 0, none⟩)) ∧ W'.cell? ⟨w.heap.size + 1 + 1 + 1, 0, none⟩ = some (.int .i64 M.length) ∧ W'.cell? ⟨r, 0, none⟩ = some (.slice la M.length lc) ∧ W'.cell? ⟨r, 1, none⟩ = some (.slice ra args.length rc) from fun W' h => by
      refine ⟨?_, ?_, ?_, ?_, ?_⟩
      · rw [blk_cell (h.get b2 (fun h => h))]; rfl
      · rw [blk_cell (h.get b3 (fun h => h))]; rfl
      · rw [blk_cell (h.get b5 (fun h => h))]; rfl
      · rw [blk_cell (h.get hrX.hb (fun h => h))]; rfl
      · rw [blk_cell (h.get hrX.hb (fun h => h))]; rfl)
    have HE := hide (show ∀ W', Fr (fun _ => False) X W' → Calls Try.prog 13 #[.pointer (some ⟨b, 0, none⟩)] W' (EnvPost W' M) from fun W' h => env_any W' b M args S (hvX.frame h (fun _ _ _ e => e)))
    have HR := hide (show ∀ W', Fr (fun _ => False) X W' → Calls Try.prog 37 #[.pointer (some ⟨r, 0, none⟩)] W' (EnvPost W' M) from fun W' h => renv_any W' r M args S' ⟨_, _, hrX.frame h (fun _ _ _ e => e)⟩ hM hv.sz)
    have HA := hide (show ∀ W', Fr (fun _ => False) X W' → _ from fun W' h => args_any W' b M args S (hvX.frame h (fun _ _ _ e => e)) hlen)
    have hra := hide hrX.ha
    have B4 := hide b4
    have hle64 := envL_le M
    obtain ⟨k01, k02, k03, k04, k05⟩ := KS.out _ (Fr.refl _ _)
    have Hfr := hide fr
    clear b2 b3 b4 b5 bi fr hvX hrX hnone
    have HTX := hide (show ∀ W' v1 v2 l S1 S2, ArgsV W' S1 v1 l → ArgsV W' S2 v2 l → l.length ≤ 200 → Calls Try.prog 16 #[v1, v2] W' (fun e w' => e = .returned (.bool true) ∧ Fr (fun _ => False) W' w') from fun W' v1 v2 l S1 S2 h1 h2 h3 => by
      have := texts_any W' S1 S2 v1 v2 l l h1 h2 (by omega) (by omega)
      rw [decide_eq_true rfl] at this
      exact this)
    have hl200 : (envL M).length ≤ 200 := by omega
    gi_wp2
    refine wpIn_wide.2 (wp_noPanicV ?_)
    have hX0 : Fr (fun _ => False) X X.drew := (Fr.refl _ _).drew
    refine region_tree (fun w' => Fr (fun _ => False) X w') [0, 1, 2, 3, 4] 18 23 (by kernel_rfl) (by kernel_rfl) (fun _ _ d _ _ h => by cases d <;> exact h) hX0 ?_
    simp only [List.map_cons, List.map_nil, List.getD_cons_zero, List.getD_cons_succ, List.drop_succ_cons, List.drop_zero]
    refine wpQuiet_val (.int .i64 M.length) rfl (fun w' hS => by (obtain ⟨e1, e2, e3, e4, e5⟩ := KS.out w' hS; go_simp)) ?_
    simp only [Act.put, List.setIfInBounds_toArray, List.set_cons_succ, List.set_cons_zero]
    refine wpQuiet_val (.pointer (some ⟨r, 0, none⟩)) rfl (fun w' hS => by (obtain ⟨e1, e2, e3, e4, e5⟩ := KS.out w' hS; go_simp)) ?_
    simp only [Act.put, List.setIfInBounds_toArray, List.set_cons_succ, List.set_cons_zero]
    refine wpQuiet_val (.pointer (some ⟨r, 0, none⟩)) rfl (fun w' hS => by (go_simp)) ?_
    simp only [Act.put, List.setIfInBounds_toArray, List.set_cons_succ, List.set_cons_zero]
    refine wpQuiet_val (.pointer (some ⟨r, 0, none⟩)) rfl (fun w' hS => by (go_simp)) ?_
    simp only [Act.put, List.setIfInBounds_toArray, List.set_cons_succ, List.set_cons_zero]
    refine wpQuiet_val (.slice la M.length lc) rfl (fun w' hS => by (obtain ⟨e1, e2, e3, e4, e5⟩ := KS.out w' hS; go_simp)) ?_
    simp only [Act.put, List.setIfInBounds_toArray, List.set_cons_succ, List.set_cons_zero]
    refine wpQuiet_nil ?_
    generalize X.drew = X0 at hX0 ⊢
    refine tree_one' 5 (by kernel_rfl) (by decide) (by simp) rfl (fun K hK => ?_)
    simp only [List.getD_cons_zero, List.getD_cons_succ]
    go_wp2_with fail
    refine hK _ _ hX0 ?_
    clear hK K
    refine tree_heads (f := 13) [6, 7, 8, 10] (by kernel_rfl) (fun _ _ d _ _ h => by cases d <;> exact h) hX0 ?_
    simp only [List.map_cons, List.map_nil, List.getD_cons_zero, List.getD_cons_succ, List.drop_succ_cons, List.drop_zero]
    refine wpQuiet_val (.bool true) rfl (fun w' hS => by (go_simp)) ?_
    simp only [Act.put, List.setIfInBounds_toArray, List.set_cons_succ, List.set_cons_zero]
    go_big_quiet_step (fail)
    refine wpQuiet_val (.pointer (some ⟨b, 0, none⟩)) rfl (fun w' hS => by (obtain ⟨e1, e2, e3, e4, e5⟩ := KS.out w' hS; go_simp)) ?_
    simp only [Act.put, List.setIfInBounds_toArray, List.set_cons_succ, List.set_cons_zero]
    refine wpQuiet_val (.pointer (some ⟨r, 0, none⟩)) rfl (fun w' hS => by (obtain ⟨e1, e2, e3, e4, e5⟩ := KS.out w' hS; go_simp)) ?_
    simp only [Act.put, List.setIfInBounds_toArray, List.set_cons_succ, List.set_cons_zero]
    refine wpQuiet_nil ?_
    refine tree_oneg 9 (by kernel_rfl) (by decide) (by simp) rfl (fun K hK => ?_)
    simp only [List.getD_cons_zero, List.getD_cons_succ]
    go_wp2_with fail
    refine (HE.out _ hX0).mono ?_
    rintro e w5 ⟨v5, rfl, own5, hf5⟩
    have hX5 : Fr (fun _ => False) X w5 := hX0.trans hf5
    obtain ⟨a5, c5, rfl⟩ := own_form own5
    refine hK _ _ hX5 ?_
    clear hK K
    refine tree_oneg 11 (by kernel_rfl) (by decide) (by simp) rfl (fun K hK => ?_)
    simp only [List.getD_cons_zero, List.getD_cons_succ]
    go_wp2_with fail
    refine (HR.out _ hX5).mono ?_
    rintro e w6 ⟨v6, rfl, own6, hf6⟩
    have hX6 : Fr (fun _ => False) X w6 := hX5.trans hf6
    obtain ⟨a6, c6, rfl⟩ := own_form own6
    have own56 := own_frame own5 hf6 (fun _ _ e => e)
    refine hK _ _ hX6 ?_
    clear hK K
    refine tree_oneg 12 (by kernel_rfl) (by decide) (by simp) rfl (fun K hK => ?_)
    simp only [List.getD_cons_zero, List.getD_cons_succ]
    go_wp2_with fail
    refine (HTX.out _ _ _ (envL M) (fun _ => True) (fun _ => True) (own_args own56 rfl (fun _ _ => trivial)) (own_args own6 rfl (fun _ _ => trivial)) hl200).mono ?_
    rintro e w7 ⟨rfl, hf7⟩
    have hX7 : Fr (fun _ => False) X w7 := hX6.trans hf7
    refine hK _ _ hX7 ?_
    clear hK K
    refine tree_one' 13 (by kernel_rfl) (by decide) (by simp) rfl (fun K hK => ?_)
    simp only [List.getD_cons_zero, List.getD_cons_succ]
    go_wp2_with fail
    refine hK _ _ hX7 ?_
    clear hK K
    refine tree_heads (f := 3) [14, 15, 17, 18, 19, 20] (by kernel_rfl) (fun _ _ d _ _ h => by cases d <;> exact h) hX7 ?_
    simp only [List.map_cons, List.map_nil, List.getD_cons_zero, List.getD_cons_succ, List.drop_succ_cons, List.drop_zero]
    go_big_quiet_step (fail)
    refine wpQuiet_val (.pointer (some ⟨b, 0, none⟩)) rfl (fun w' hS => by (obtain ⟨e1, e2, e3, e4, e5⟩ := KS.out w' hS; go_simp)) ?_
    simp only [Act.put, List.setIfInBounds_toArray, List.set_cons_succ, List.set_cons_zero]
    refine wpQuiet_val (.pointer (some ⟨r, 0, none⟩)) rfl (fun w' hS => by (obtain ⟨e1, e2, e3, e4, e5⟩ := KS.out w' hS; go_simp)) ?_
    simp only [Act.put, List.setIfInBounds_toArray, List.set_cons_succ, List.set_cons_zero]
    refine wpQuiet_val (.pointer (some ⟨r, 0, none⟩)) rfl (fun w' hS => by (go_simp)) ?_
    simp only [Act.put, List.setIfInBounds_toArray, List.set_cons_succ, List.set_cons_zero]
    refine wpQuiet_val (.pointer (some ⟨r, 1, none⟩)) rfl (fun w' hS => by (go_simp)) ?_
    simp only [Act.put, List.setIfInBounds_toArray, List.set_cons_succ, List.set_cons_zero]
    refine wpQuiet_val (.slice ra args.length rc) rfl (fun w' hS => by (obtain ⟨e1, e2, e3, e4, e5⟩ := KS.out w' hS; go_simp)) ?_
    simp only [Act.put, List.setIfInBounds_toArray, List.set_cons_succ, List.set_cons_zero]
    refine wpQuiet_nil ?_
    refine tree_oneg 16 (by kernel_rfl) (by decide) (by simp) rfl (fun K hK => ?_)
    simp only [List.getD_cons_zero, List.getD_cons_succ]
    go_wp2_with fail
    refine (HA.out _ hX7).mono ?_
    rintro e w8 ⟨v8, rfl, ha8, hf8⟩
    have hX8 : Fr (fun _ => False) X w8 := hX7.trans hf8
    obtain ⟨a8, c8, rfl⟩ := ha8.form
    refine hK _ _ hX8 ?_
    clear hK K
    refine tree_oneg 21 (by kernel_rfl) (by decide) (by simp) rfl (fun K hK => ?_)
    simp only [List.getD_cons_zero, List.getD_cons_succ]
    go_wp2_with fail
    refine (HTX.out _ _ _ args _ _ ha8 (hra.out.frame hX8 (fun _ _ _ e => e)) hlen).mono ?_
    rintro e w9 ⟨rfl, hf9⟩
    have hX9 : Fr (fun _ => False) X w9 := hX8.trans hf9
    refine hK _ _ hX9 ?_
    clear hK K
    refine tree_one' 22 (by kernel_rfl) (by decide) (by simp) rfl (fun K hK => ?_)
    simp only [List.getD_cons_zero, List.getD_cons_succ]
    go_wp2_with fail
    refine hK _ _ hX9 ?_
    clear hK K
    refine tree_end (by kernel_rfl) ?_
    have b49 := hX9.get B4.out (fun e => e)
    have c49 : w9.cell? ⟨w.heap.size + 1 + 1, 0, none⟩ = some (.bool false) := by rw [blk_cell b49]; rfl
    have z49 : w9.frozen? ⟨w.heap.size + 1 + 1, 0, none⟩ = false := blk_frozen b49 0
    go_wp2
    refine noPanicV_normal ?_
    have hset := frSet w9 (w.heap.size + 2) 0 (.bool true)
    have hb9 := blk_set b49 0 (.bool true)
    have hk9 := hX9.get hK (fun e => e)
    have hk10 := blk_set_other hk9 ⟨w.heap.size + 2, 0, none⟩ (.bool true) (by show w1.heap.size ≠ w.heap.size + 2; omega)
    have hput : Fr (fun k => k = w1.heap.size) (w9.setCell ⟨w.heap.size + 2, 0, none⟩ (.bool true)) ((w9.setCell ⟨w.heap.size + 2, 0, none⟩ (.bool true)).putObj w1.heap.size (.deferred none)) := fr_putObj _ rfl
    have hfr9 : Fr (fun _ => False) w ((w9.setCell ⟨w.heap.size + 2, 0, none⟩ (.bool true)).putObj w1.heap.size (.deferred none)) := ((Hfr.out.trans hX9).trans' hset (fun i hi e => by omega)).trans' hput (fun i hi e => by omega)
    have hc4 : ((w9.setCell ⟨w.heap.size + 1 + 1, 0, none⟩ (.bool true)).putObj w1.heap.size (.deferred none)).cell? ⟨w.heap.size + 1 + 1, 0, none⟩ = some (.bool true) := by
      rw [blk_cell (t := 4) (f := (0, 0)) (c := #[.bool true])]
      · rfl
      · rw [World.putObj_heap_other (by omega)]; exact hb9
    have hfr9 := hide hfr9
    have hk10 := hide hk10
    clear hset hb9 hk9 hput c49 z49 b49
    gi_wp2
    refine ⟨by simp, .inl ⟨_, _, rfl, run_takeDeferred hk10.out, ?_⟩⟩
    refine ⟨.bool true, ?_, rfl, hfr9.out⟩
    simp [results, Try.results27, go_sem, hc4]
end Go.Proofs.Ytcojeojmodjmdaa
