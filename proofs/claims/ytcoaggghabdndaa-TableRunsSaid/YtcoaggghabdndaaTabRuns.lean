/- The walk of TableRuns: it returns true and leaves old memory as it was. Conditions: the row of calls reads as a row of calls. -/
import Derived.Test.YtcoaggghabdndaaTabJoint
import Derived.Test.YtcoaggghabdndaaRegionTwo
import Derived.Deep.CutBlock
import Derived.Deep.DeepCutAuto
import Derived.Deep.LoopGhost
import Derived.Great.BuildSlice
import Derived.Outline
import Derived.Deep.WholeRow
import Derived.Laws.CopyRow
namespace Go.Proofs.Ytcoaggghabdndaa
open Go.RowKit

/-- A row of calls of the table's law. -/
def TCallRow (W : World) (a : Option Addr) (len : Nat) : Prop :=
  len ≤ 9223372036854775807 ∧ (len = 0 ∨ ∃ cb co, a = some ⟨cb, co, none⟩ ∧ ∀ k, k < len → ∃ (what x fd : Int) (on : Bool), W.cell? ⟨cb, co + k * 4, none⟩ = some (.int .i64 what) ∧ W.cell? ⟨cb, co + k * 4 + 1, none⟩ = some (.int .i64 x) ∧
    W.cell? ⟨cb, co + k * 4 + 2, none⟩ = some (.int .i64 fd) ∧ W.cell? ⟨cb, co + k * 4 + 3, none⟩ = some (.bool on))
def TRel (W : World) (len gk : Nat) (tv rv ov wv i : Value) (w : World) : Prop :=
  ∃ k t r st S L, gk + k = len ∧ k ≤ 200 ∧ i = .int .i64 k ∧ tv = .pointer (some ⟨t, 0, none⟩) ∧ rv = .pointer (some ⟨r, 0, none⟩) ∧ TInv W w t r st S L ov wv
def TCut (W : World) (tv rv ov wv : Value) (w : World) : Prop :=
  ∃ t r st S L, tv = .pointer (some ⟨t, 0, none⟩) ∧ rv = .pointer (some ⟨r, 0, none⟩) ∧ TInv W w t r st S L ov wv
theorem Try.info24 : (Try.prog.info? 24).map (fun i => (i.zero, i.size, i.bytes)) = some (some (.pointer none), 1, 8) := by kernel_rfl
theorem Try.info60 : (Try.prog.info? 60).map (fun i => (i.zero, i.size, i.bytes)) = some (some (.pointer none), 1, 8) := by kernel_rfl
def refZ : Array Value := ⟨(List.replicate 32 [Value.int .i64 0, .bool false, .bool false]).flatten⟩
theorem refZ_zero (w : World) : (zeroValue 65).run Try.prog w = .ok (.agg refZ) w := by kernel_rfl
theorem refZ_size : refZ.size = 96 := by kernel_rfl
def refZok (i : Nat) : Bool := match refZ[i * 3]?, refZ[i * 3 + 1]?, refZ[i * 3 + 2]? with
  | some (.int .i64 n), some (.bool a), some (.bool b) => n == 0 && !a && !b
  | _, _, _ => false
theorem refZ_all : (List.range 32).all refZok = true := by kernel_rfl
theorem refZ_at (i : Nat) (hi : i < 32) : refZ[i * 3]? = some (.int .i64 0) ∧ refZ[i * 3 + 1]? = some (.bool false) ∧ refZ[i * 3 + 2]? = some (.bool false) := by
  have h := List.all_eq_true.1 refZ_all i (by simpa using hi)
  unfold refZok at h
  split at h
  · rename_i e1 e2 e3
    simp only [Bool.and_eq_true, beq_iff_eq, Bool.not_eq_true'] at h
    obtain ⟨⟨rfl, rfl⟩, rfl⟩ := h
    exact ⟨e1, e2, e3⟩
  · cases h
theorem run_storeCells_new {P : Program} (w : World) (t : TypeId) (c c' : Array Value) (hs : c.size = c'.size) (h1 : c'.all (·.oneCell') = true) :
    (storeCells ⟨w.heap.size, 0, none⟩ c'.toList 0).run P (w.alloc (.cells c t)) = .ok () (w.alloc (.cells c' t)) := by
  rw [run_storeCells_at P w.heap.size 0 t c'.toList 0 c (w.alloc (.cells c t)) (blk_new _ _) (by simp; omega) (fun v hv => by
    rw [Array.all_eq_true] at h1
    obtain ⟨i, hi, rfl⟩ := List.getElem_of_mem hv
    have := h1 i (by simpa using hi)
    simpa using this)]
  rw [World.setRow_alloc_new]
  have hd : c.toList.drop c.size = [] := List.drop_eq_nil_of_le (by simp)
  congr 3
  simp [← hs, hd]
theorem RefT.new {w : World} {r : Nat} (hb : w.heap[r]? = some (.cells refZ 65 (0, 0))) : RefT w r (fun _ => none) :=
  ⟨_, hb, refZ_size, fun i hi => (refZ_at i hi).1, fun i hi => (refZ_at i hi).2.1, fun i hi => (refZ_at i hi).2.2⟩
set_option maxRecDepth 100000 in
set_option maxHeartbeats 8000000 in
theorem truns_walk (a : Option Addr) (len cap : Nat) (W : World) (hc : TCallRow W a len) : Calls Try.prog 7 #[.slice a len cap] W (LawPost W) := by
  go_enter Try.func7, Try.ntmps7
  go_wp2_with fail
  refine (awake_any _).mono ?_
  rintro e w1 ⟨rfl, hf1⟩
  go_wp2_with fail
  refine (new_any _).mono ?_
  rintro e w2 ⟨rfl, hw2⟩
  have ht := TabF.new w1 (fun k => w1.heap.size ≤ k) (fun _ h => h) w2 hw2
  have hf2 : Fr (fun _ => False) w1 w2 := by rw [hw2]; exact (Fr.refl _ _).alloc _
  clear hw2
  have hzv := refZ_zero
  go_upto_block 0 with fail
  have hI : TInv W (w2.alloc (.cells refZ 65 (0, 0))) w1.heap.size w2.heap.size (fun _ => none) (fun k => w1.heap.size ≤ k ∧ k ≠ w2.heap.size) [] (.slice none 0 0) (.slice none 0 0) := by
    have z1 := hf1.size
    have z2 := hf2.size
    have hb := blk_lt ht.choose_spec.choose_spec.hb
    refine ⟨ht.aside _, RefT.new (blk_new _ _), fun h => h.2 rfl, fun k hk => by omega, by omega, World.ownsRow_nil _ _ _ _, World.ownsRow_nil _ _ _ _, fun g e => (by cases e), fun g e => (by cases e), fun g e => (by cases e), ⟨fun _ => False, fun _ h => h.elim, by simp⟩, by simp, (hf1.trans hf2).alloc _⟩
  clear hzv hf1 hf2 ht
  go_cut [5, 6] (fun ov wv wx => ∃ t r st S L, TInv W wx t r st S L ov wv)
  case first =>
    go_wp2_with fail
    go_loopg [3, 4, 5, 6, 39] len (fun gk tv rv ov wv i wr => TRel W len gk tv rv ov wv i wr)
    case atStart => exact ⟨0, _, _, _, _, _, by omega, by omega, rfl, rfl, rfl, hI⟩
    case round =>
      clear hI
      obtain ⟨k, t, r, st, S, L, hgk, hk200, rfl, rfl, rfl, hI⟩ := hrel
      obtain ⟨ova, ovc, rfl⟩ := own_form hI.o1
      obtain ⟨wva, wvc, rfl⟩ := own_form hI.o2
      have Hgk := hide hgk
      clear hgk
      by_cases hlt : k < len
      · obtain ⟨cb, co, rfl, hrow⟩ := hc.2.resolve_left (by omega)
        obtain ⟨what, x, fd, on, c0, c1, c2, c3⟩ := hrow k hlt
        have d0 : wr.cell? ⟨cb, co + k * 4, none⟩ = some (.int .i64 what) := by rw [World.cell?_of_block (w := W) (hI.fr.block _ (World.block_lt_of_cell? _ _ c0) (fun h => h))]; exact c0
        have d1 : wr.cell? ⟨cb, co + k * 4 + 1, none⟩ = some (.int .i64 x) := by rw [World.cell?_of_block (w := W) (hI.fr.block _ (World.block_lt_of_cell? _ _ c1) (fun h => h))]; exact c1
        have d2 : wr.cell? ⟨cb, co + k * 4 + 2, none⟩ = some (.int .i64 fd) := by rw [World.cell?_of_block (w := W) (hI.fr.block _ (World.block_lt_of_cell? _ _ c2) (fun h => h))]; exact c2
        have d3 : wr.cell? ⟨cb, co + k * 4 + 3, none⟩ = some (.bool on) := by rw [World.cell?_of_block (w := W) (hI.fr.block _ (World.block_lt_of_cell? _ _ c3) (fun h => h))]; exact c3
        clear hrow c0 c1 c2 c3
        have hIa := hI.aside (.cells #[.int .i64 what, .int .i64 x, .int .i64 fd, .bool on] 69 (0, 0))
        have hrb : wr.heap.size ≠ r := by obtain ⟨cs, h⟩ := hI.ref; have := blk_lt h.hb; omega
        by_cases h200 : k = 200
        · subst h200
          have hfin : ∃ t r st S L', TInv W (wr.alloc (.cells #[.int .i64 what, .int .i64 x, .int .i64 fd, .bool on] 69 (0, 0))) t r st S L' (.slice ova L.length ovc) (.slice wva L.length wvc) := ⟨_, _, _, _, _, hIa⟩
          have hfin := hide hfin
          clear hI hIa
          go_wp2_with fail
          go_meet
          exact hfin.out
        · obtain ⟨wa, hwa⟩ : ∃ wa, wa = wr.alloc (.cells #[.int .i64 what, .int .i64 x, .int .i64 fd, .bool on] 69) := ⟨_, rfl⟩
          rw [← hwa] at hIa
          have hca : wa.heap[wr.heap.size]? = some (.cells #[.int .i64 what, .int .i64 x, .int .i64 fd, .bool on] 69 (0, 0)) := by rw [hwa]; exact blk_new _ _
          have hnS : ¬ (S wr.heap.size ∧ wr.heap.size ≠ wr.heap.size) := fun h => h.2 rfl
          have Hwa := hide hwa
          clear hwa hI
          go_upto_block 2 with fail
          go_cut [3, 4, 5, 6] (fun tv rv ov wv wc => TCut W tv rv ov wv wc)
          case first =>
            rw [← Hwa.out]
            clear d0 d1 d2 d3 Hwa
            have e1 : wa.cell? ⟨wr.heap.size, 1, none⟩ = some (.int .i64 x) := by rw [blk_cell hca]; rfl
            have e2 : wa.cell? ⟨wr.heap.size, 2, none⟩ = some (.int .i64 fd) := by rw [blk_cell hca]; rfl
            have e3 : wa.cell? ⟨wr.heap.size, 3, none⟩ = some (.bool on) := by rw [blk_cell hca]; rfl
            have Hca := hide hca
            have HIa := hide hIa
            clear hca hIa
            go_wp2_with fail
            · -- Put
              as_aux_lemma =>
              obtain ⟨av, ev, st', hp, hrp⟩ := put_j HIa.out.tab x fd
              refine hp.mono ?_
              rintro e w4 ⟨rfl, ht4, hf4⟩
              have hc4 := hf4.get Hca.out hnS
              have e41 : w4.cell? ⟨wr.heap.size, 1, none⟩ = some (.int .i64 x) := by rw [blk_cell hc4]; rfl
              have e42 : w4.cell? ⟨wr.heap.size, 2, none⟩ = some (.int .i64 fd) := by rw [blk_cell hc4]; rfl
              have hr4 := HIa.out.ref.frame hf4 HIa.out.sr
              clear hc4
              have hrp := hrp r w4 hr4
              go_wp2_with fail
              refine hrp.mono ?_
              rintro e w5 ⟨rfl, hr5, hf5⟩
              have hI5 := HIa.out.both ht4 hf4 hr5 hf5
              clear hrp ht4 hf4 hr5 hf5 hr4
              go_wp2_with fail
              go_meet
              case rel => exact ⟨_, _, _, _, _, rfl, rfl, hI5⟩
            · -- Set
              as_aux_lemma =>
              obtain ⟨av, ev, bv, st', hp, hrp⟩ := set_j HIa.out.tab fd x
              refine hp.mono ?_
              rintro e w4 ⟨rfl, ht4, hf4⟩
              have hc4 := hf4.get Hca.out hnS
              have e41 : w4.cell? ⟨wr.heap.size, 1, none⟩ = some (.int .i64 x) := by rw [blk_cell hc4]; rfl
              have e42 : w4.cell? ⟨wr.heap.size, 2, none⟩ = some (.int .i64 fd) := by rw [blk_cell hc4]; rfl
              have hr4 := HIa.out.ref.frame hf4 HIa.out.sr
              clear hc4
              have hrp := hrp r w4 hr4
              go_wp2_with fail
              refine hrp.mono ?_
              rintro e w5 ⟨rfl, hr5, hf5⟩
              have hI5 := HIa.out.both ht4 hf4 hr5 hf5
              clear hrp ht4 hf4 hr5 hf5 hr4
              go_wp2_with fail
              go_meet
              case rel => exact ⟨_, _, _, _, _, rfl, rfl, hI5⟩
            · -- Get
              as_aux_lemma =>
              obtain ⟨av, ev, hp, hrp⟩ := get_j HIa.out.tab fd
              have hrp := hrp r _ HIa.out.ref
              refine hp.mono ?_
              rintro e w4 ⟨rfl, rfl⟩
              go_wp2_with fail
              refine hrp.mono ?_
              rintro e w4 ⟨rfl, rfl⟩
              clear hrp
              go_wp2_with fail
              go_meet
              case rel => exact ⟨_, _, _, _, _, rfl, rfl, HIa.out⟩
            · -- Cut
              as_aux_lemma =>
              obtain ⟨av, ev, st', hp, hrp⟩ := cut_j HIa.out.tab fd
              refine hp.mono ?_
              rintro e w4 ⟨rfl, ht4, hf4⟩
              have hc4 := hf4.get Hca.out hnS
              have e41 : w4.cell? ⟨wr.heap.size, 1, none⟩ = some (.int .i64 x) := by rw [blk_cell hc4]; rfl
              have e42 : w4.cell? ⟨wr.heap.size, 2, none⟩ = some (.int .i64 fd) := by rw [blk_cell hc4]; rfl
              have hr4 := HIa.out.ref.frame hf4 HIa.out.sr
              clear hc4
              have hrp := hrp r w4 hr4
              go_wp2_with fail
              refine hrp.mono ?_
              rintro e w5 ⟨rfl, hr5, hf5⟩
              have hI5 := HIa.out.both ht4 hf4 hr5 hf5
              clear hrp ht4 hf4 hr5 hf5 hr4
              go_wp2_with fail
              go_meet
              case rel => exact ⟨_, _, _, _, _, rfl, rfl, hI5⟩
            · -- Mark
              as_aux_lemma =>
              have hfd : Fr (fun _ => False) wa wa.drew := (Fr.refl _ _).drew
              have HId := HIa.out.still hfd
              obtain ⟨ev, st', hp, hrp⟩ := mark_j HId.tab fd on
              refine region_calls (fun w' => w'.heap[wr.heap.size]? = some (.cells #[.int .i64 what, .int .i64 x, .int .i64 fd, .bool on] 69 (0, 0))) [0, 1, 2, 3, 4, 6, 7, 8, 9, 10] [5, 11] 12 (by kernel_rfl) (by kernel_rfl) (fun _ _ d _ _ h => by cases d <;> exact h) Hca.out ?_
              simp only [List.map_cons, List.map_nil, List.getD_cons_zero, List.getD_cons_succ, List.drop_succ_cons, List.drop_zero]
              go_big_quiet_step (fail)
              refine wpQuiet_val (.pointer (some ⟨wr.heap.size, 2, none⟩)) rfl (fun w' _ => by go_simp) ?_
              simp only [Act.put, List.setIfInBounds_toArray, List.set_cons_succ, List.set_cons_zero]
              refine wpQuiet_val (.int .i64 fd) rfl (fun w' hS => by have e2 : w'.cell? ⟨wr.heap.size, 2, none⟩ = some (.int .i64 fd) := (by rw [blk_cell hS]; rfl); go_simp) ?_
              simp only [Act.put, List.setIfInBounds_toArray, List.set_cons_succ, List.set_cons_zero]
              refine wpQuiet_val (.pointer (some ⟨wr.heap.size, 3, none⟩)) rfl (fun w' _ => by go_simp) ?_
              simp only [Act.put, List.setIfInBounds_toArray, List.set_cons_succ, List.set_cons_zero]
              refine wpQuiet_val (.bool on) rfl (fun w' hS => by have e2 : w'.cell? ⟨wr.heap.size, 3, none⟩ = some (.bool on) := (by rw [blk_cell hS]; rfl); go_simp) ?_
              simp only [Act.put, List.setIfInBounds_toArray, List.set_cons_succ, List.set_cons_zero]
              go_big_quiet_step (fail)
              refine wpQuiet_val (.pointer (some ⟨wr.heap.size, 2, none⟩)) rfl (fun w' _ => by go_simp) ?_
              simp only [Act.put, List.setIfInBounds_toArray, List.set_cons_succ, List.set_cons_zero]
              refine wpQuiet_val (.int .i64 fd) rfl (fun w' hS => by have e2 : w'.cell? ⟨wr.heap.size, 2, none⟩ = some (.int .i64 fd) := (by rw [blk_cell hS]; rfl); go_simp) ?_
              simp only [Act.put, List.setIfInBounds_toArray, List.set_cons_succ, List.set_cons_zero]
              refine wpQuiet_val (.pointer (some ⟨wr.heap.size, 3, none⟩)) rfl (fun w' _ => by go_simp) ?_
              simp only [Act.put, List.setIfInBounds_toArray, List.set_cons_succ, List.set_cons_zero]
              refine wpQuiet_val (.bool on) rfl (fun w' hS => by have e2 : w'.cell? ⟨wr.heap.size, 3, none⟩ = some (.bool on) := (by rw [blk_cell hS]; rfl); go_simp) ?_
              simp only [Act.put, List.setIfInBounds_toArray, List.set_cons_succ, List.set_cons_zero]
              refine wpQuiet_nil ?_
              refine chainS_step rfl (fun K hK => ?_)
              go_wp2_with fail
              refine hp.mono ?_
              rintro e w4 ⟨rfl, ht4, hf4⟩
              have hc4 := hf4.get Hca.out hnS
              have hrp := hrp r w4 (HId.ref.frame hf4 HId.sr)
              refine hK _ _ hc4 ?_
              clear hK K
              refine chainS_step rfl (fun K hK => ?_)
              go_wp2_with fail
              refine hrp.mono ?_
              rintro e w5 ⟨rfl, hr5, hf5⟩
              have hI5 := HId.both ht4 hf4 hr5 hf5
              refine hK _ _ (hf5.get hc4 hrb) ?_
              clear hK K hp hrp ht4 hf4 hr5 hf5 HId hc4
              refine chainS_nil ?_
              go_wp2_with fail
              go_meet
              case rel => exact ⟨_, _, _, _, _, rfl, rfl, hI5⟩
            · -- Exec
              as_aux_lemma =>
              refine (exec_any _ _ _ _ HIa.out.tab).mono ?_
              rintro e w4 ⟨v1, rfl, ho1, ht4, hf4⟩
              have hr4 := HIa.out.ref.frame hf4 HIa.out.sr
              obtain ⟨va1, vc1, rfl⟩ := own_form ho1
              go_wp2_with fail
              refine (rexec_any _ _ _ hr4).mono ?_
              rintro e w5 ⟨v2, rfl, ho2, hr5, hf5⟩
              obtain ⟨va2, vc2, rfl⟩ := own_form ho2
              have ho1' := own_frame ho1 hf5 (fun g e h => by
                have h1 := (ho1.lt _ e).1
                obtain ⟨cs, h2⟩ := HIa.out.ref
                have h3 := blk_lt h2.hb
                omega)
              have hI5 := HIa.out.both ht4 hf4 hr5 hf5
              have HI5 := hide hI5
              have hxl := exL_le st 32
              clear hI5 ho1 ht4 hf4 hr5 hf5 hr4
              generalize exL st 32 = xs at *
              go_wp2_with fail
              go_loopw [187] (fun i wl => ∃ j : Nat, j ≤ xs.length ∧ i = .int .i64 j ∧ Fr (fun _ => False) w5 wl) (fun i _ => xs.length - (intOf i).toNat)
              case atStart => exact ⟨0, by omega, rfl, Fr.refl _ _⟩
              case round =>
                obtain ⟨j, hj, rfl, hfl⟩ := hrel
                by_cases hjl : j < xs.length
                · obtain ⟨g1, rfl, _, _, hc1⟩ := own_cells (own_frame ho1' hfl (fun _ _ e => e)) (by omega)
                  obtain ⟨g2, rfl, _, _, hc2⟩ := own_cells (own_frame ho2 hfl (fun _ _ e => e)) (by omega)
                  have c1 := hc1 j (.int .i64 xs[j]) (by simp [ints, hjl])
                  have c2 := hc2 j (.int .i64 xs[j]) (by simp [ints, hjl])
                  have hj1 : (0 : Int) ≤ (j : Int) := by omega
                  have hj2 : (j : Int) < (xs.length : Int) := by omega
                  clear hc1 hc2 ho1' ho2
                  generalize xs[j] = xj at *
                  go_wp2_with fail
                  refine region_still (by kernel_rfl) (by kernel_rfl) ?_
                  repeat go_big_quiet_step (fail)
                  refine wpQuiet_nil ?_
                  go_wp2_with fail
                  go_roundw
                  case rel => exact ⟨j + 1, by omega, by go_num, hfl.drew⟩
                  case measure => simp [intOf]; omega
                · go_wp2_with fail
                  go_meet
                  case rel => exact ⟨_, _, _, _, _, rfl, rfl, HI5.out.still hfl⟩
            · -- Copy
              as_aux_lemma =>
              obtain ⟨csr, hrf⟩ := HIa.out.ref
              have hi96 : (Try.prog.info? 65).map (·.size) = some csr.size := by rw [hrf.hcs]; kernel_rfl
              have hi96 := hide hi96
              have hone := hide hrf.ones
              have hcs96 := hide hrf.hcs
              have hL5 : L.length < 5 := by omega
              obtain ⟨i1, hin1, hz11, hz12, hz13⟩ := info_parts Try.info24
              obtain ⟨i2, hin2, hz21, hz22, hz23⟩ := info_parts Try.info60
              have hzv := refZ_zero
              have hwsz := HIa.out.fr.size
              go_wp2_with fail
              refine wp_load_row 65 _ rfl r rfl 65 csr (0, 0) _ hrf.hb Try.underlying65 rfl hi96.out ?_
              have hstc := run_storeCells_new (P := Try.prog) wa 65 refZ csr (refZ_size.trans hcs96.out.symm) hone.out
              go_wp2_with (at_builtin; refine wpList_append_lies _ rfl _ _ _ rfl W.heap.size 24 i1 (.pointer none) 1 8 Try.underlying66 hin1 hz11 hz12 hz13 rfl (by decide) _ L.length (tptrs L) rfl ((HIa.out.o1.alloc _).alloc _) ⟨wa.heap.size + 1, 0, none⟩ 1 1 [.pointer (some ⟨t, 0, none⟩)] rfl rfl ?c1 ?c2 (by decide) ?c3 ?c4 ?c5 (wa.heap.size + 2) ?c6 ?_)
              case c1 => have := cell_one_new (wa.alloc (.cells csr 65)) (.pointer (some ⟨t, 0, none⟩)) 24; simpa using this
              case c2 => intro u hu; simp at hu; subst hu; rfl
              case c3 => unfold maxLen; omega
              case c4 => omega
              case c5 => simp; omega
              case c6 => simp
              intro g1 cap1 w7 k1 gr1 l1 lt1
              have hs7 := gr1.size
              simp only [World.size_alloc] at hs7
              have ho27 : w7.ownsRow W.heap.size 60 1 (.slice wva L.length wvc) L.length (rptrs L) :=
                own_frame ((HIa.out.o2.alloc _).alloc _) (Fr.of_grown gr1) (fun g e e2 => HIa.out.d12 _ e2 e)
              go_wp2_with (at_builtin; refine wpList_append_lies _ rfl _ _ _ rfl W.heap.size 60 i2 (.pointer none) 1 8 Try.underlying67 hin2 hz21 hz22 hz23 rfl (by decide) _ L.length (rptrs L) rfl (ho27.alloc _) ⟨w7.heap.size, 0, none⟩ 1 1 [.pointer (some ⟨r, 0, none⟩)] rfl rfl ?d1 ?d2 (by decide) ?d3 ?d4 ?d5 (w7.heap.size + 1) ?d6 ?_)
              case d1 => exact cell_one_new _ _ _
              case d2 => intro u hu; simp at hu; subst hu; rfl
              case d3 => unfold maxLen; omega
              case d4 => omega
              case d5 => simp; omega
              case d6 => simp
              intro g2 cap2 w8 k2 gr2 l2 lt2
              have hA : Fr (fun k => (Value.slice ova L.length ovc).ownBlock = some k ∨ (Value.slice wva L.length wvc).ownBlock = some k) wa w8 :=
                ((((Fr.refl _ _).alloc _).alloc _).trans ((Fr.of_grown gr1).mono (fun _ _ e => .inl e))).trans (((Fr.refl _ _).alloc _).trans ((Fr.of_grown gr2).mono (fun _ _ e => .inr e)))
              have ht8 : TabAt w8 t st _ := HIa.out.tab.frame hA (fun k _ hk e => e.elim (fun e => (HIa.out.d1 k e).1 hk) (fun e => (HIa.out.d2 k e).1 hk))
              go_wp2_with fail
              refine (copy_any w8 t st _ ht8).mono ?_
              rintro e w9 ⟨rfl, ht9, hf9⟩
              have hI9 := HIa.out.copied hL5 hrf k1 gr1 l1 k2 gr2 l2 lt2 ht9 hf9
              have HI9 := hide hI9
              clear hI9 ht8 hA k1 gr1 l1 k2 gr2 l2 lt2 ht9 hf9 ho27 hzv
              go_wp2_with fail
              go_meet
              case rel => exact ⟨_, _, _, _, _, rfl, rfl, by simpa using HI9.out⟩
            · -- full
              go_meet
              case rel => exact ⟨_, _, _, _, _, rfl, rfl, HIa.out⟩
            · -- nothing
              go_meet
              case rel => exact ⟨_, _, _, _, _, rfl, rfl, HIa.out⟩
          case rest =>
            as_aux_lemma =>
            clear d0 d1 d2 d3 hca hIa Hwa hnS hrb
            obtain ⟨t, r, st, S, L, rfl, rfl, hI⟩ := hcut
            have hs := same_any wc t r st S hI.tab hI.ref
            have HI := hide hI
            clear hI
            go_wp2_with fail
            refine hs.mono ?_
            rintro e w4 ⟨rfl, hf4⟩
            have hI4 := hide (HI.out.still hf4)
            clear hs
            go_wp2_with fail
            go_roundg (gk - 1)
            case measure => have := Hgk.out; omega
            case rel => exact ⟨k + 1, t, r, st, S, L, by have := Hgk.out; omega, by omega, by go_num, rfl, rfl, hI4.out⟩
      · have hfin : ∃ t r st S L', TInv W wr t r st S L' (.slice ova L.length ovc) (.slice wva L.length wvc) := ⟨_, _, _, _, _, hI⟩
        have hfin := hide hfin
        clear hI
        go_wp2_with fail
        go_meet
        exact hfin.out
  case rest =>
    clear hI
    obtain ⟨t, r, st, S, L, hI⟩ := hcut
    obtain ⟨ova, ovc, rfl⟩ := own_form hI.o1
    obtain ⟨wva, wvc, rfl⟩ := own_form hI.o2
    have hL5 := hI.hL
    have HI := hide hI
    clear hI
    go_wp2_with fail
    go_loopw [225] (fun i wr => ∃ j : Nat, j ≤ L.length ∧ i = .int .i64 j ∧ TInv W wr t r st S L (.slice ova L.length ovc) (.slice wva L.length wvc)) (fun i _ => L.length - (intOf i).toNat)
    case atStart => exact ⟨0, by omega, rfl, HI.out⟩
    case round =>
      clear HI
      obtain ⟨j, hj, rfl, hI⟩ := hrel
      by_cases hlt : j < L.length
      · obtain ⟨g1, rfl, _, _, hc1⟩ := own_cells hI.o1 (by omega)
        obtain ⟨g2, rfl, _, _, hc2⟩ := own_cells hI.o2 (by omega)
        have c1 : wr.cell? ⟨g1, j, none⟩ = some (.pointer (some ⟨L[j].1, 0, none⟩)) := hc1 j _ (by simp [tptrs, hlt])
        have c2 : wr.cell? ⟨g2, j, none⟩ = some (.pointer (some ⟨L[j].2.1, 0, none⟩)) := hc2 j _ (by simp [rptrs, hlt])
        clear hc1 hc2
        obtain ⟨O, _, hO⟩ := hI.olds
        obtain ⟨⟨p, cs, htj, _, _⟩, hrj, _⟩ := hO L[j] (List.getElem_mem _)
        have hfd : Fr (fun _ => False) wr wr.drew := (Fr.refl _ _).drew
        have hsame := same_any wr.drew L[j].1 L[j].2.1 L[j].2.2 (fun _ => True) ⟨p, cs, htj.frame2 hfd (fun e => e) (fun _ _ _ e => e)⟩ (hrj.frame hfd (fun e => e))
        have Hs := hide hsame
        clear hO hsame htj hrj
        have HI := hide hI
        clear hI
        generalize L[j].1 = tj at *
        generalize L[j].2.1 = rj at *
        go_wp2_with fail
        refine region_tail 8 (by kernel_rfl) (by kernel_rfl) ?_
        simp only [List.take_succ_cons, List.take_zero, List.drop_succ_cons, List.drop_zero]
        repeat go_big_quiet_step (fail)
        refine wpQuiet_nil ?_
        go_wp2_with fail
        refine Hs.out.mono ?_
        rintro e w4 ⟨rfl, hf4⟩
        go_wp2_with fail
        go_roundw
        case rel => exact ⟨j + 1, by omega, by go_num, HI.out.still (hfd.trans hf4)⟩
        case measure => simp [intOf]; omega
      · have hfin : LawPost W (.returned (.bool true)) wr := ⟨rfl, hI.fr.below (fun _ _ h => h)⟩
        clear hI
        go_wp2_with fail
        go_ret
        exact hfin
end Go.Proofs.Ytcoaggghabdndaa
