/- Contract of shyardlaw11.same. Conditions: both tables have the same. -/
import Derived.Test.YtcoaggghabdndaaTabExec
import Derived.Test.YtcoaggghabdndaaTabAwake
import Derived.Deep.RegionHeld3
namespace Go.Proofs.Ytcoaggghabdndaa
open Go.RowKit Go.Shelf

attribute [local go_sem] Oper.semAt_some

structure SameI (w : World) (t r : Nat) (st : TSt) (s : Nat × Int) (W : World) : Prop where
  le : s.1 ≤ 32
  lo : -1 ≤ s.2
  lt : s.2 < s.1
  b2 : W.heap[w.heap.size]? = some (.cells #[.pointer (some ⟨t, 0, none⟩)] 24 (0, 0))
  b3 : W.heap[w.heap.size + 1]? = some (.cells #[.pointer (some ⟨r, 0, none⟩)] 60 (0, 0))
  b4 : W.heap[w.heap.size + 2]? = some (.cells #[.bool false] 4 (0, 0))
  b5 : W.heap[w.heap.size + 3]? = some (.cells #[.int .i64 (used st s.1 : Nat)] 3 (0, 0))
  b6 : W.heap[w.heap.size + 4]? = some (.cells #[.int .i64 s.2] 3 (0, 0))
  bi : W.heap[w.heap.size + 5]? = some (.cells #[.pointer (some ⟨t, 0, none⟩)] 24 (0, 0))
  fr : Fr (fun _ => False) w W
theorem SameI.frame {w W W' : World} {t r : Nat} {st : TSt} {S' : Nat → Prop} {s : Nat × Int} (h : SameI w t r st s W) (hf : Fr S' W W') (hS : ∀ k, S' k → k = w.heap.size + 6 ∨ k = w.heap.size + 7) : SameI w t r st s W' :=
  ⟨h.le, h.lo, h.lt, hf.get h.b2 (fun e => by have := hS _ e; omega), hf.get h.b3 (fun e => by have := hS _ e; omega), hf.get h.b4 (fun e => by have := hS _ e; omega), hf.get h.b5 (fun e => by have := hS _ e; omega), hf.get h.b6 (fun e => by have := hS _ e; omega), hf.get h.bi (fun e => by have := hS _ e; omega),
   h.fr.trans' hf (fun i hi e => by have := hS _ e; omega)⟩
def noPanic (Q : Exit → Act → World → Prop) : Exit → Act → World → Prop
  | .panic _, _, _ => False
  | e, a, w => Q e a w
theorem noPanic_normal {Q : Exit → Act → World → Prop} {a : Act} {w : World} (h : Q .normal a w) : noPanic Q .normal a w := h
theorem wp_noPanic {P : Program} {c : Code} {Q : Exit → Act → World → Prop} {a : Act} {w : World} (h : c.wp P (noPanic Q) a w) : c.wp P Q a w :=
  wp_mono h fun e _ _ h1 => by cases e <;> first | exact h1 | exact h1.elim
set_option maxRecDepth 100000 in
set_option maxHeartbeats 4000000 in
theorem same_any (w : World) (t r : Nat) (st : TSt) (S : Nat → Prop) (ht : TabAt w t st S) (hr : RefT w r st) :
    Calls Try.prog 39 #[.pointer (some ⟨t, 0, none⟩), .pointer (some ⟨r, 0, none⟩)] w (AwakePost w) := by
  refine (callsIn_wide (n := 5)).1 ?_
  refine callsIn_of_wp_marks Try.func39 rfl trivial ?_ rfl
  simp only [Try.ntmps39, List.size_toArray, List.length_cons, List.length_nil, Nat.reduceAdd, Nat.reduceSub, Array.replicate_succ, Array.replicate_zero, List.push_toArray, List.append_toArray, List.nil_append, List.cons_append]
  gi_wp2_with (refine ⟨trivial, ?_⟩; gi_at_call 40; refine (callsIn_wide.2 (all_any _ _)).mono ?_; rintro e w' ⟨rfl, rfl⟩)
  have h0 : SameI w t r st (0, -1) ((((((w.alloc (.cells #[.pointer (some ⟨t, 0, none⟩)] 24 (0, 0))).alloc (.cells #[.pointer (some ⟨r, 0, none⟩)] 60 (0, 0))).alloc (.cells #[.bool false] 4 (0, 0))).alloc (.cells #[.int .i64 0] 3 (0, 0))).alloc (.cells #[.int .i64 (-1)] 3 (0, 0))).alloc (.cells #[.pointer (some ⟨t, 0, none⟩)] 24 (0, 0))) :=
    ⟨by simp, by simp, by simp, blk_alloc (blk_alloc (blk_alloc (blk_alloc (blk_alloc (blk_new _ _) _) _) _) _) _, blk_alloc (blk_alloc (blk_alloc (blk_alloc (blk_new' _ _ _ (by simp)) _) _) _) _, blk_alloc (blk_alloc (blk_alloc (blk_new' _ _ _ (by simp)) _) _) _,
     blk_alloc (blk_alloc (blk_new' _ _ _ (by simp)) _) _, blk_alloc (blk_new' _ _ _ (by simp)) _, blk_new' _ _ _ (by simp), ((((((Fr.refl _ _).alloc _).alloc _).alloc _).alloc _).alloc _).alloc _⟩
  refine rf_law (α := Nat × Int) (σ := Nat × Int) 51 #[.pointer (some ⟨w.heap.size + 5, 0, none⟩)] rfl (enters_of Try.func51 (by kernel_rfl) rfl) tenc (fun _ => rfl)
    (TStep Prod.fst (fun _ => st) (fun _ fd => (fd + 1, (fd : Int)))) (TFin Prod.fst (fun _ => st)) (0, -1) (SameI w t r st) (fun _ _ => False)
    (fun s A B h hg => h.frame hg (fun k e => by simp at e; omega)) (fun _ _ _ h _ => h) (fun _ _ _ _ _ h _ _ => h) h0
    (fun l J Jx W hJI _ _ hY h0 => all1_iter _ (by omega) _ (some ⟨t, 0, none⟩) Prod.fst (fun _ => st) (fun _ fd => (fd + 1, (fd : Int))) (fun _ _ => rfl) (SameI w t r st)
      (fun s W h => ⟨.inr ⟨t, S, rfl, ht.frame h.fr (fun _ _ _ e => e)⟩, by rw [blk_cell h.bi]; rfl⟩) (0, -1) rfl l J Jx W hJI hY h0)
    ?a1 ?assign ?body ?done ?stop
  case assign =>
    intro l x W K hK
    simp only [tenc]
    gi_wp2
    exact hK
  case body =>
    rintro l s ⟨k, x⟩ s' W ⟨hp1, hp2, hp3, ⟨m, hp4⟩, rfl⟩ hi hsz
    obtain ⟨le, lo, lt, b2, b3, b4, b5, b6, bi, fr⟩ := hi
    simp only at hp1 hp2 hp3 hp4 ⊢
    have ht2 := ht.frame fr (fun _ _ _ e => e)
    have hr2 := hr.frame fr (fun e => e)
    have hat : st.at (k : Int) = some (x, m) := by rw [at_in' hp2]; exact hp4
    have hget := rget_any W r st hr2 k
    rw [hat] at hget
    simp only [getV] at hget
    have hmk := marked_any W.drew t st S (ht2.frame ((Fr.refl (fun _ => False) _).drew) (fun _ _ _ e => e)) k
    rw [hat] at hmk
    have hus := used_step hp1 hp3 (by rw [hp4]; rfl)
    have hle := used_le st s.1
    clear hp3
    have c2 : W.cell? ⟨w.heap.size, 0, none⟩ = some (.pointer (some ⟨t, 0, none⟩)) := by rw [blk_cell b2]; rfl
    have c3 : W.cell? ⟨w.heap.size + 1, 0, none⟩ = some (.pointer (some ⟨r, 0, none⟩)) := by rw [blk_cell b3]; rfl
    have c5 : W.cell? ⟨w.heap.size + 3, 0, none⟩ = some (.int .i64 (used st s.1 : Nat)) := by rw [blk_cell b5]; rfl
    have c6 : W.cell? ⟨w.heap.size + 4, 0, none⟩ = some (.int .i64 s.2) := by rw [blk_cell b6]; rfl
    have z5 := blk_frozen b5
    have z6 := blk_frozen b6
    have cm : W.cell? ⟨r, k * 3 + 2, none⟩ = some (.bool m) := by obtain ⟨cs, hf⟩ := hr2; rw [(hf.cells k hp2).2.2, hp4]; rfl
    have hkd : decide ((k : Int) ≤ s.2) = false := decide_eq_false (by omega)
    have Hus := hide hus
    have Hhp4 := hide hp4
    clear hus hp4 hat
    gi_wp2_with (refine ⟨trivial, ?_⟩; gi_at_call 32; refine (CallsIn.inRound l (callsIn_wide.2 hget)).mono ?_; rintro e w' ⟨rfl, rfl⟩)
    refine round_any (by kernel_rfl) (by kernel_rfl) ?hlo ?_
    case hlo => exact fun ⟨_, _, h9⟩ => h9
    refine any_mix [] [0,1,2,3,4,5,6,7,8,9,10,11,12,13,14,15,16,17,18,19,20,21,22,23] 24 (by kernel_rfl) (fun _ _ d _ _ h => by cases d <;> exact h) ?_
    simp only [List.map_cons, List.map_nil, List.getD_cons_zero, List.getD_cons_succ, List.drop_succ_cons, List.drop_zero]
    refine wpQuiet_nil ?_
    repeat go_big_quiet_step (fail)
    go_big_quiet_want
    go_big_quiet_op
    refine ⟨_, hmk.mono (fun _ _ h9 => ⟨h9.1, h9.2.symm⟩), ?_⟩
    go_big_quiet_on
    repeat go_big_quiet_step (fail)
    refine wpQuiet_nil ?_
    have hI : SameI w t r st (k + 1, (k : Int)) ((W.setCell ⟨w.heap.size + 4, 0, none⟩ (.int .i64 k)).setCell ⟨w.heap.size + 3, 0, none⟩ (.int .i64 ((used st s.1 : Nat) + 1 : Int))).drew := by
      refine ⟨by simp only; omega, by simp only; omega, by simp only; omega, blk_drew (blk_set_other (blk_set_other b2 _ _ (by simp)) _ _ (by simp)), blk_drew (blk_set_other (blk_set_other b3 _ _ (by simp)) _ _ (by simp)), blk_drew (blk_set_other (blk_set_other b4 _ _ (by simp)) _ _ (by simp)),
        blk_drew ?_, blk_drew ?_, blk_drew (blk_set_other (blk_set_other bi _ _ (by simp)) _ _ (by simp)), ?_⟩
      · rw [blk_set (blk_set_other b5 _ _ (by simp)), Hus.out]; simp
      · rw [blk_set_other (blk_set b6 _ _) _ _ (by simp)]; simp
      · exact ((fr.setCell (.inr (by simp)) _).setCell (.inr (by simp)) _).drew
    have hI := hide hI
    go_wp2
    gi_wp2
    refine ⟨⟨?_, ?_⟩, hI.out⟩
    all_goals
      simp only [World.size_alloc]
      rw [show ∀ w : World, w.drew.heap = w.heap from fun _ => rfl, Below.heap_setCell _ _ _ _ (by simp; omega), Below.heap_setCell _ _ _ _ (by simp; omega)]
  case done =>
    rintro s W hfin ⟨le, lo, lt, b2, b3, b4, b5, b6, bi, fr⟩ hK
    have hus : used st 32 = used st s.1 := used_end le hfin
    have hle := used_le st 32
    rw [← hus] at b5
    clear hfin hus
    have ht2 := ht.frame fr (fun _ _ _ e => e)
    have hr2 := hr.frame fr (fun e => e)
    have c2 : W.cell? ⟨w.heap.size, 0, none⟩ = some (.pointer (some ⟨t, 0, none⟩)) := by rw [blk_cell b2]; rfl
    have c3 : W.cell? ⟨w.heap.size + 1, 0, none⟩ = some (.pointer (some ⟨r, 0, none⟩)) := by rw [blk_cell b3]; rfl
    have c4 : W.cell? ⟨w.heap.size + 2, 0, none⟩ = some (.bool false) := by rw [blk_cell b4]; rfl
    have c5 : W.cell? ⟨w.heap.size + 3, 0, none⟩ = some (.int .i64 (used st 32 : Nat)) := by rw [blk_cell b5]; rfl
    have z4 := blk_frozen b4
    have hTd := ht2.frame ((Fr.refl (fun _ => False) W).drew) (fun _ _ _ e => e)
    have hRd := hr2.frame ((Fr.refl (fun _ => False) W).drew) (fun e => e)
    obtain ⟨f, hf, hf1⟩ : ∃ f : Nat, 32 - used st 32 = f ∧ f ≤ 32 := ⟨_, rfl, by omega⟩
    obtain ⟨g, hf2⟩ : ∃ g : Int, ((used st 32 : Nat) : Int) = g := ⟨_, rfl⟩
    have hfg : (32 : Int) - (f : Int) = g := by omega
    rw [hf2] at c5
    have hRF : ∀ W', RefT W' r st → Calls Try.prog 50 #[.pointer (some ⟨r, 0, none⟩)] W' fun e w' => e = .returned (.int .i64 (f : Int)) ∧ W' = w' := fun W' h => hf ▸ rfree_any W' r st h
    have hTF : Calls Try.prog 42 #[.pointer (some ⟨t, 0, none⟩)] W.drew fun e w' => e = .returned (.int .i64 (f : Int)) ∧ Fr (fun _ => False) W.drew w' := hf ▸ free_any W.drew t st S hTd
    have hRF := hide hRF
    have hTF := hide hTF
    have hwr : IntKind.i64.wrap ((32 : Int) - (f : Int)) = g := by rw [IntWalk.i64_in _ ⟨by omega, by omega⟩]; exact hfg
    clear hfg hf1
    rw [hf2] at b5
    clear hf hf2 ht2 hr2 hTd b6 bi hle
    gi_wp2
    have hn1 : ¬ w.heap.size = w.heap.size + 1 + 1 := by omega
    have hn2 : ¬ w.heap.size + 1 + 1 = w.heap.size := by omega
    refine wpIn_wide.2 (wp_noPanic ?_)
    go_region_held3 (fun w' => w'.cell? ⟨w.heap.size, 0, none⟩ = some (.pointer (some ⟨t, 0, none⟩)) ∧ w'.cell? ⟨w.heap.size + 1, 0, none⟩ = some (.pointer (some ⟨r, 0, none⟩)) ∧ w'.cell? ⟨w.heap.size + 3, 0, none⟩ = some (.int .i64 g)) (go_keep) (first
      | (go_at_call 50; refine (hRF.out _ (by assumption)).mono ?_; rintro e w' ⟨rfl, rfl⟩)
      | (go_at_call 42; refine hTF.out.mono ?_; rintro e w5 ⟨rfl, hf5⟩; have hR5 := hRd.frame hf5 (fun e => e); have b35 := hf5.get (blk_drew b3) (fun e => e); have b45 := hf5.get (blk_drew b4) (fun e => e); have c35 : w5.cell? ⟨w.heap.size + 1, 0, none⟩ = some (.pointer (some ⟨r, 0, none⟩)) := (by rw [blk_cell b35]; rfl); have c45 : w5.cell? ⟨w.heap.size + 2, 0, none⟩ = some (.bool false) := (by rw [blk_cell b45]; rfl); have z45 := blk_frozen b45; have c25 : w5.cell? ⟨w.heap.size, 0, none⟩ = some (.pointer (some ⟨t, 0, none⟩)) := (by rw [blk_cell (hf5.get (blk_drew b2) (fun e => e))]; rfl); have c55 : w5.cell? ⟨w.heap.size + 3, 0, none⟩ = some (.int .i64 g) := (by rw [blk_cell (hf5.get (blk_drew b5) (fun e => e))]; rfl); clear b35))
    refine noPanic_normal ?_
    clear hwr
    gi_wp2
    have hk5 := hf5.get (blk_drew hK) (fun e => e)
    simp only [World.size_alloc] at hk5
    refine ⟨by simp, .inl ⟨_, _, rfl, run_takeDeferred (blk_set_other hk5 _ _ (by simp; omega)), ?_⟩⟩
    have hput := fr_putObj (S := fun k => w.heap.size ≤ k) (W := w5.setCell ⟨w.heap.size + 1 + 1, 0, none⟩ (.bool true)) (r := w.heap.size + 1 + 1 + 1 + 1 + 1 + 1) (.deferred none) (by omega)
    have hW5 : Fr (fun k => w.heap.size ≤ k) w w5 := ((fr.drew).trans hf5).mono (fun _ _ h => h.elim)
    have hset : Fr (fun k => w.heap.size ≤ k) w (w5.setCell ⟨w.heap.size + 1 + 1, 0, none⟩ (.bool true)) := hW5.setCell (p := ⟨w.heap.size + 1 + 1, 0, none⟩) (.inl (by show _ ≤ w.heap.size + 1 + 1; omega)) _
    have hall := hset.trans hput
    refine ⟨.bool true, ?_, rfl, hall.mono (fun i h1 h2 => by omega)⟩
    have hc4 : ((w5.setCell ⟨w.heap.size + 1 + 1, 0, none⟩ (.bool true)).putObj (w.heap.size + 1 + 1 + 1 + 1 + 1 + 1) (.deferred none)).cell? ⟨w.heap.size + 1 + 1, 0, none⟩ = some (.bool true) := by
      rw [blk_cell (t := 4) (f := (0, 0)) (c := #[.bool true])]
      · rfl
      · rw [World.putObj_heap_other (by omega), blk_set b45]
        rfl
    simp [results, Try.results39, go_sem, hc4]
  case stop =>
    rintro c W h _
    exact h.elim
end Go.Proofs.Ytcoaggghabdndaa
