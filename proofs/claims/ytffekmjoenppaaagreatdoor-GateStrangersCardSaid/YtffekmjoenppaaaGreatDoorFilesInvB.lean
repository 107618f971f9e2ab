/- files.FS.Create, Mkdir, New. Conditions: the contracts' own premises. -/
import Derived.Test.YtffekmjoenppaaaGreatDoorFilesR
namespace Go.Proofs.YtffekmjoenppaaaGreatDoor
open Go.RowKit

/-- So it answers, and so it leaves the tree. -/
def MutX (f : Nat) (σ' : FSt) (S : Nat → Prop) (v : Value) (w : World) (e : Ending) (w' : World) : Prop := e = .returned v ∧ (∃ p', FilesAt w' f σ' S p') ∧ Fr S w w'
theorem MutPost.x {f : Nat} {σ' : FSt} {S : Nat → Prop} {p : Nat → Nat} {v : Value} {w : World} {e : Ending} {w' : World} (h : MutPost f σ' S p v w e w') : MutX f σ' S v w e w' := ⟨h.1, ⟨p, h.2.1⟩, h.2.2⟩
set_option maxRecDepth 100000 in
set_option maxHeartbeats 1000000 in
theorem Mkdir_any (w : World) (f : Nat) (σ : FSt) (S : Nat → Prop) (p : Nat → Nat) (h : FilesAt w f σ S p) (hml : Ml w) (hcap : CapB σ) (dir : Int) (hd : -9223372036854775808 ≤ dir ∧ dir ≤ 9223372036854775807) (s : ByteArray) (hs : s.size ≤ 9223372036854775807) (m : Int) (hm : -9223372036854775808 ≤ m ∧ m ≤ 9223372036854775807) :
    Calls Tryz.prog 31 #[.pointer (some ⟨f, 0, none⟩), .int .i64 dir, .string s, .int .i64 m] w (MutX f (makeR σ dir s.data.toList true m).2 S (.int .i64 (makeR σ dir s.data.toList true m).1) w) := by
  have hmm := @run_makeMap Tryz.prog
  obtain ⟨w0, hw0⟩ : ∃ w0, w0 = w.alloc (.map #[] 0) := ⟨_, rfl⟩
  have hz0 : w0.heap.size = w.heap.size + 1 := by rw [hw0]; simp
  obtain ⟨w1, hw1⟩ : ∃ w1, w1 = w0.alloc (.cells #[.int .i64 0, .int .i64 2, .int .i64 m, .int .i64 0, .int .i64 0, .slice none 0 0, .map (some w.heap.size), .pointer none] 90 (0, 0)) := ⟨_, rfl⟩
  have hf0 : Fr (fun _ => False) w w0 := by rw [hw0]; exact (Fr.refl _ _).alloc _
  have hf01 : Fr (fun _ => False) w0 w1 := by rw [hw1]; exact (Fr.refl _ _).alloc _
  have hf1 := hf0.trans hf01
  have hb1 : w1.heap[w.heap.size + 1]? = some (.cells #[.int .i64 0, .int .i64 2, .int .i64 m, .int .i64 0, .int .i64 0, .slice none 0 0, .map (some w.heap.size), .pointer none] 90 (0, 0)) := by rw [hw1, ← hz0]; exact blk_new _ _
  have hm1 : SMapAt Tryz.prog 9 w1 w.heap.size [] := by
    have : SMapAt Tryz.prog 9 w0 w.heap.size [] := by rw [hw0]; exact SMapAt.made w
    exact this.frame hf01 (fun e => e)
  have hup : S w.heap.size ∧ S (w.heap.size + 1) := by obtain ⟨_, _, _, _, hF⟩ := h; exact ⟨hF.up _ (Nat.le_refl _), hF.up _ (Nat.le_succ _)⟩
  have hA0 : FilesAt w0 f σ (fun k => S k ∧ k ≠ w.heap.size) p := by rw [hw0]; exact h.aside _
  have hA1 : FilesAt w1 f σ (fun k => (S k ∧ k ≠ w.heap.size) ∧ k ≠ w.heap.size + 1) p := by rw [hw1, ← hz0]; exact hA0.aside _
  have hadd := fadd_any w1 f σ _ p hA1 (hml.frame hf1 (fun e => e)) dir hd s hs (w.heap.size + 1) true m (.map (some w.heap.size)) ⟨hb1, fun _ => ⟨_, rfl, hm1⟩, fun e => by cases e⟩ (fun e => e.2 rfl) (fun mb e => by cases e; exact fun e => e.1.2 rfl) hcap hm
  have hmono : ∀ k, NewS (fun k => (S k ∧ k ≠ w.heap.size) ∧ k ≠ w.heap.size + 1) (w.heap.size + 1) (.map (some w.heap.size)) k → S k := fun k hk => by
    rcases hk with hk | rfl | hk
    · exact hk.1.1
    · exact hup.2
    · cases hk; exact hup.1
  have hres := hide (show ∀ (e : Ending) w2, MakePost f σ (fun k => (S k ∧ k ≠ w.heap.size) ∧ k ≠ w.heap.size + 1) (w.heap.size + 1) (.map (some w.heap.size)) dir s.data.toList true m w1 e w2 → MutX f (makeR σ dir s.data.toList true m).2 S (.int .i64 (makeR σ dir s.data.toList true m).1) w e w2 from fun e w2 ⟨h1, ⟨p', hA, _⟩, hfr⟩ =>
    ⟨h1, ⟨p', hA.mono hmono⟩, (hf1.mono (fun _ _ e => e.elim)).trans (hfr.mono (fun k _ hk => hmono k hk))⟩)
  have Hadd := hide hadd
  clear hadd hmono hA0 hA1 hm1 hb1
  subst hw1
  subst hw0
  rw [hz0] at *
  clear hz0
  go_enter Tryz.func31, Tryz.ntmps31
  go_wp2_with fail
  refine Hadd.out.mono ?_
  rintro e w2 hq
  have h9 := hres.out _ _ hq
  obtain ⟨rfl, _⟩ := hq
  have H9 := hide h9
  clear h9 hres Hadd
  go_wp2_with fail
  go_ret
  exact H9.out
end Go.Proofs.YtffekmjoenppaaaGreatDoor

/- files.slots.cut, files.FS.let: a number is free. Conditions: the contracts' own premises. -/
namespace Go.Proofs.YtffekmjoenppaaaGreatDoor
open Go.RowKit

/-- An inode less. -/
theorem FilesF.removed {w w' : World} {f : Nat} {σ : FSt} {S : Nat → Prop} {p : Nat → Nat} {dv ev pv : Nat → Value} {lv : Value} (h : FilesF w f σ S p dv ev pv lv) {i : Nat} {n : Nd} (hn : σ.nd i = some n) (hf : Fr (fun k => k = f ∨ lv.ownBlock = some k) w w')
    (hb : w'.heap[f]? = some (.cells #[lv, .int .i64 (σ.put i none).cnt, .pointer (some ⟨p 1, 0, none⟩), .int .i64 (σ.put i none).byts] 86 (0, 0)))
    (hl : w'.ownsRow 0 84 1 lv (σ.put i none).length (slotV p (σ.put i none))) (hlive : Live (σ.put i none)) : FilesF w' f (σ.put i none) S p dv ev pv lv := by
  have hs : (σ.nd i).isSome = true := by rw [hn]; rfl
  have hput := FSt.nd_put hs none
  have back : ∀ j, ((σ.put i none).nd j).isSome = true → (σ.nd j).isSome = true := fun j hj => by
    rw [hput] at hj
    split at hj
    · cases hj
    · exact hj
  refine ⟨hb, hl, fun j m hj => ?_, fun j k hj hk => h.inj j k (back j hj) (back k hk), fun j k g hj hk => h.injd j k g (back j hj) (back k hk), fun j k m hj hk => h.inje j k m (back j hj) (back k hk), h.own, h.ownl, fun j hj => h.ownn j (back j hj), fun j g hj => h.ownd j g (back j hj), fun j m hj => h.owne j m (back j hj), fun k hk => h.up k (Nat.le_trans hf.size hk), hlive⟩
  rw [hput] at hj
  split at hj
  · cases hj
  · have hnj := h.nd j m hj
    refine hnj.frame hf (fun ht => ?_) (fun g e ht => ?_) (fun mb e ht => ?_)
    · rcases ht with e2 | e2
      · exact cells_ne hnj.hb (e2 ▸ h.hb) (by decide) rfl
      · obtain ⟨c2, hc2⟩ := h.lv_blk e2
        exact cells_ne hnj.hb hc2 (by decide) rfl
    · obtain ⟨c, hc⟩ := hnj.data.blk e
      rcases ht with e2 | e2
      · exact cells_ne hc (e2 ▸ h.hb) (by decide) rfl
      · obtain ⟨c2, hc2⟩ := h.lv_blk e2
        exact cells_ne hc hc2 (by decide) rfl
    · obtain ⟨es, clock, hm⟩ := hnj.map_blk e
      rcases ht with e2 | e2
      · rw [e2, h.hb] at hm; cases hm
      · obtain ⟨c2, hc2⟩ := h.lv_blk e2
        rw [hc2] at hm; cases hm
def CutPost (w : World) (f i : Nat) (lv : Value) (cnt : Nat) (rv bv : Value) (l : List (Option Nat)) (e : Ending) (w' : World) : Prop :=
  e = .returned (.tuple #[]) ∧ w'.heap[f]? = some (.cells #[lv, .int .i64 ((cnt : Int) - 1), rv, bv] 86 (0, 0)) ∧ w'.ownsRow 0 84 1 lv l.length ((l.set i none).map encP) ∧ Fr (fun k => k = f ∨ lv.ownBlock = some k) w w'
set_option maxRecDepth 100000 in
set_option maxHeartbeats 1000000 in
theorem scut_any (w : World) (f i : Nat) (lv : Value) (cnt : Nat) (rv bv : Value) (l : List (Option Nat)) (hb : w.heap[f]? = some (.cells #[lv, .int .i64 cnt, rv, bv] 86 (0, 0)))
    (hl : w.ownsRow 0 84 1 lv l.length (l.map encP)) (hcnt : cnt ≤ 1000) (hll : l.length ≤ 1000) (hi : i < l.length) :
    Calls Tryz.prog 107 #[.pointer (some ⟨f, 0, none⟩), .int .i64 ((i : Int) + 1)] w (CutPost w f i lv cnt rv bv l) := by
  obtain ⟨la, lc, rfl⟩ := own_form hl
  obtain ⟨g, rfl, _, hgl, hcs⟩ := own_cells hl (by omega)
  have hlf : g ≠ f := by
    rcases hl.2 with ⟨h1, _⟩ | ⟨g', cap', cur, h1, _, hg, _⟩
    · cases h1
    · cases h1
      intro e
      rw [e, hb] at hg
      simp at hg
  obtain ⟨hst, _⟩ := hl.stored i (.pointer none)
  have zg := hl.frozenAt i
  obtain ⟨u, hu⟩ : ∃ u, (l.map encP)[i]? = some u := ⟨_, List.getElem?_eq_getElem (by simpa using hi)⟩
  have cg := hcs i u hu
  have hfr1 := frSet w g i (.pointer none)
  have hb1 := hfr1.get hb (fun e => hlf e.symm)
  have c0 : w.cell? ⟨f, 0, none⟩ = some (.slice (some ⟨g, 0, none⟩) l.length lc) := by rw [blk_cell hb]; rfl
  have c1 : (w.setCell ⟨g, i, none⟩ (.pointer none)).cell? ⟨f, 1, none⟩ = some (.int .i64 cnt) := by rw [blk_cell hb1]; rfl
  have z1 := blk_frozen hb1 1
  have hiI : (i : Int) < (l.length : Int) := by omega
  have hfr2 := frSet (w.setCell ⟨g, i, none⟩ (.pointer none)) f 1 (.int .i64 ((cnt : Int) - 1))
  have hres := hide (show CutPost w f i (.slice (some ⟨g, 0, none⟩) l.length lc) cnt rv bv l (.returned (.tuple #[])) ((w.setCell ⟨g, i, none⟩ (.pointer none)).setCell ⟨f, 1, none⟩ (.int .i64 ((cnt : Int) - 1))) from by
    refine ⟨rfl, by rw [blk_set hb1]; rfl, ?_, (hfr1.mono (S' := fun k => k = f ∨ (Value.slice (some ⟨g, 0, none⟩) l.length lc).ownBlock = some k) (fun k _ e => .inr (by rw [e]; rfl))).trans' hfr2 (fun k _ e => .inl e)⟩
    rw [List.map_set]
    exact own_frame hst hfr2 (fun g' e e2 => hlf (by have : g = g' := by simpa [Value.ownBlock] using e
                                                     rw [this, e2])))
  clear hst hl hcs hu hfr1 hfr2 hb hb1
  go_enter Tryz.func107, Tryz.ntmps107
  go_wp2_with fail
  go_returns
  exact hres.out
/-- An inode that nothing names and nothing holds is no more. -/
def letS (σ : FSt) (i : Nat) : FSt := match σ.nd i with | none => σ | some n => if n.links = 0 ∧ n.holds = 0 then σ.put i none else σ
def UnitPost (f : Nat) (σ' : FSt) (S : Nat → Prop) (p : Nat → Nat) (w : World) (e : Ending) (w' : World) : Prop := e = .returned (.tuple #[]) ∧ FilesAt w' f σ' S p ∧ Fr S w w'
theorem slotL_put (p : Nat → Nat) (σ : FSt) (i : Nat) : ((slotL p σ).set (i - 1) none).map encP = slotV p (σ.put i none) := by
  rw [← slotL_enc]
  congr 1
  unfold slotL FSt.put
  apply List.ext_getElem
  · simp
  · intro k h1 h2
    simp only [List.getElem_set, List.getElem_mapIdx]
    split <;> rfl
set_option maxRecDepth 100000 in
set_option maxHeartbeats 2000000 in
theorem let_any (w : World) (f : Nat) (σ : FSt) (S : Nat → Prop) (p : Nat → Nat) (h : FilesAt w f σ S p) (hcap : CapB σ) (i : Nat) (n : Nd) (hn : σ.nd i = some n) (hfree : n.links = 0 → n.holds = 0 → Live (σ.put i none)) :
    Calls Tryz.prog 95 #[.pointer (some ⟨f, 0, none⟩), .pointer (some ⟨p i, 0, none⟩)] w (UnitPost f (letS σ i) S p w) := by
  have hh := h
  obtain ⟨dv, ev, pv, lv, hF⟩ := h
  have hN := hF.nd i n hn
  have hcaps := hcap i n hn
  have c3 : w.cell? ⟨p i, 3, none⟩ = some (.int .i64 n.links) := by rw [blk_cell hN.hb]; rfl
  have c4 : w.cell? ⟨p i, 4, none⟩ = some (.int .i64 n.holds) := by rw [blk_cell hN.hb]; rfl
  by_cases h3 : n.links = 0
  · by_cases h4 : n.holds = 0
    · rw [show letS σ i = σ.put i none by unfold letS; rw [hn]; simp [h3, h4]]
      have hlive := hfree h3 h4
      obtain ⟨hi0, hil⟩ := FSt.nd_lt (show (σ.nd i).isSome = true by rw [hn]; rfl)
      obtain ⟨k, rfl⟩ : ∃ k, i = k + 1 := ⟨i - 1, by omega⟩
      obtain ⟨da, dc, hdv⟩ := hN.data.form
      have hbyts := hF.live.byts
      have hdl := byts_nd hn
      have hlen := hF.live.len
      have hcn := hF.live.cnt
      have hput := FSt.byts_put hn none
      simp only [ndLen, Nat.add_zero] at hput
      have hB : ((σ.put (k + 1) none).byts : Int) = (σ.byts : Int) - (n.data.length : Int) := by omega
      have hC := FSt.cnt_put (show (σ.nd (k + 1)).isSome = true by rw [hn]; rfl) none
      simp only [one, Option.isSome_none, Bool.false_eq_true, if_false, Nat.add_zero] at hC
      have hCI : ((σ.put (k + 1) none).cnt : Int) = (σ.cnt : Int) - 1 := by omega
      obtain ⟨X, hX⟩ : ∃ X, X = (w.drew.setCell ⟨f, 3, none⟩ (.int .i64 ((σ.byts : Int) - (n.data.length : Int)))).drew := ⟨_, rfl⟩
      have hfX : Fr (fun b => b = f) w X := by rw [hX]; exact (((Fr.refl _ _).drew).trans (frSet _ _ _ _)).drew
      have hbX : X.heap[f]? = some (.cells #[lv, .int .i64 σ.cnt, .pointer (some ⟨p 1, 0, none⟩), .int .i64 ((σ.byts : Int) - (n.data.length : Int))] 86 (0, 0)) := by rw [hX]; exact blk_drew (by rw [blk_set (blk_drew hF.hb)]; rfl)
      have hlvf : ∀ g, lv.ownBlock = some g → g ≠ f := fun g e e2 => by
        obtain ⟨c, hc⟩ := hF.lv_blk e
        exact cells_ne hc (e2 ▸ hF.hb) (by decide) rfl
      have hlX := own_frame hF.hl hfX hlvf
      have hcut := hide (scut_any X f k lv σ.cnt (.pointer (some ⟨p 1, 0, none⟩)) (.int .i64 ((σ.byts : Int) - (n.data.length : Int))) (slotL p σ) hbX (by rw [slotL_length, slotL_enc]; exact hlX) (by omega) (by rw [slotL_length]; omega) (by rw [slotL_length]; omega))
      have hres := hide (show ∀ (e : Ending) w', CutPost X f k lv σ.cnt (.pointer (some ⟨p 1, 0, none⟩)) (.int .i64 ((σ.byts : Int) - (n.data.length : Int))) (slotL p σ) e w' → e = .returned (.tuple #[]) ∧ UnitPost f (σ.put (k + 1) none) S p w (.returned (.tuple #[])) w' from by
        rintro e w' ⟨rfl, h1, h2, h9⟩
        have hfr : Fr (fun b => b = f ∨ lv.ownBlock = some b) w w' := (hfX.mono (fun _ _ e => .inl e)).trans h9
        refine ⟨rfl, rfl, ⟨dv, ev, pv, lv, hF.removed hn hfr (by rw [hCI, hB]; exact h1) ?_ hlive⟩, hfr.mono (fun b _ e => ?_)⟩
        · rw [FSt.put_length, ← slotL_put, Nat.add_sub_cancel]
          rw [slotL_length] at h2
          exact h2
        · rcases e with rfl | e
          · exact hF.own
          · exact hF.ownl b e)
      have c0d : w.drew.cell? ⟨f, 3, none⟩ = some (.int .i64 σ.byts) := by rw [blk_cell (blk_drew hF.hb)]; rfl
      have c5d : w.drew.cell? ⟨p (k + 1), 5, none⟩ = some (.slice da n.data.length dc) := by rw [blk_cell (blk_drew hN.hb), hdv]; rfl
      have zfd : w.drew.frozen? ⟨f, 3, none⟩ = false := blk_frozen (blk_drew hF.hb) 3
      have hpf : p (k + 1) ≠ f := cells_ne hN.hb hF.hb (by decide)
      have cX0 : X.cell? ⟨p (k + 1), 0, none⟩ = some (.int .i64 ((k : Int) + 1)) := by rw [blk_cell (hfX.get hN.hb hpf)]; simp
      rw [h3] at c3
      rw [h4] at c4
      clear hfree hF hN hcaps hlive hput hC hCI hB hlX hlvf hbX hfX hdv hh hcap
      go_enter Tryz.func95, Tryz.ntmps95
      go_wp2_with fail
      refine region_tail 10 (by kernel_rfl) (by kernel_rfl) ?_
      simp only [List.take_succ_cons, List.take_zero, List.drop_succ_cons, List.drop_zero]
      repeat go_big_quiet_step (fail)
      refine wpQuiet_nil ?_
      go_wp2_with fail
      refine region_tail 7 (by kernel_rfl) (by kernel_rfl) ?_
      rw [show (w.setCell ⟨f, 3, none⟩ (.int .i64 ((σ.byts : Int) - (n.data.length : Int)))).drew.drew = X from by rw [hX]; rfl]
      clear hX
      simp only [List.take_succ_cons, List.take_zero, List.drop_succ_cons, List.drop_zero]
      repeat go_big_quiet_step (fail)
      refine wpQuiet_nil ?_
      go_wp2_with fail
      refine hcut.out.mono ?_
      clear hcut
      rintro e w' hp
      obtain ⟨rfl, hu⟩ := hres.out _ _ hp
      have Hu := hide hu
      clear hres hp hu
      go_wp2_with fail
      go_returns
      exact Hu.out
    · rw [show letS σ i = σ by unfold letS; rw [hn]; simp [h4]]
      have h4I : ((n.holds : Int) == 0) = false := by rw [beq_eq_false_iff_ne]; omega
      have hres := hide (show UnitPost f σ S p w (.returned (.tuple #[])) w from ⟨rfl, hh, Fr.refl _ _⟩)
      rw [h3] at c3
      clear hfree hF hN hcaps h4
      go_enter Tryz.func95, Tryz.ntmps95
      go_wp2_with fail
      go_returns
      exact hres.out
  · rw [show letS σ i = σ by unfold letS; rw [hn]; simp [h3]]
    have h3I : ((n.links : Int) == 0) = false := by rw [beq_eq_false_iff_ne]; omega
    have hres := hide (show UnitPost f σ S p w (.returned (.tuple #[])) w from ⟨rfl, hh, Fr.refl _ _⟩)
    clear hfree hF hN hcaps h3
    go_enter Tryz.func95, Tryz.ntmps95
    go_wp2_with fail
    go_returns
    exact hres.out
end Go.Proofs.YtffekmjoenppaaaGreatDoor

/- files.New, shyardlaw08.awake. No condition but the library's own variable. -/
namespace Go.Proofs.YtffekmjoenppaaaGreatDoor
open Go.RowKit

def rootN : Nd := ⟨true, 493, 1, 0, [], [], 1⟩
def newT : FSt := [some rootN]
theorem newT_nd {i : Nat} {n : Nd} (h : newT.nd i = some n) : i = 1 ∧ n = rootN := by
  have := FSt.nd_lt (σ := newT) (i := i) (by rw [h]; rfl)
  have e : i = 1 := by have h2 : newT.length = 1 := rfl; omega
  subst e
  cases h
  exact ⟨rfl, rfl⟩
theorem newT_some {i : Nat} (h : (newT.nd i).isSome = true) : i = 1 := by
  obtain ⟨n, hn⟩ := Option.isSome_iff_exists.1 h
  exact (newT_nd hn).1
def NewPost (w : World) (e : Ending) (w' : World) : Prop := ∃ f p, e = .returned (.pointer (some ⟨f, 0, none⟩)) ∧ FilesAt w' f newT (fun k => w.heap.size ≤ k) p ∧ Fr (fun _ => False) w w'
set_option maxRecDepth 100000 in
set_option maxHeartbeats 1000000 in
theorem New_any (w : World) : Calls Tryz.prog 9 #[] w (NewPost w) := by
  have hmm := @run_makeMap Tryz.prog
  obtain ⟨fb, hfb⟩ : ∃ fb, fb = w.heap.size := ⟨_, rfl⟩
  obtain ⟨w1, hw1⟩ : ∃ w1, w1 = w.alloc (.cells #[.slice none 0 0, .int .i64 0, .pointer (some ⟨w.heap.size + 1 + 1, 0, none⟩), .int .i64 0] 86 (0, 0)) := ⟨_, rfl⟩
  obtain ⟨w2, hw2⟩ : ∃ w2, w2 = w1.alloc (.map #[] 0) := ⟨_, rfl⟩
  obtain ⟨w3, hw3⟩ : ∃ w3, w3 = w2.alloc (.cells #[.int .i64 0, .int .i64 2, .int .i64 493, .int .i64 1, .int .i64 0, .slice none 0 0, .map (some (w.heap.size + 1)), .pointer none] 90 (0, 0)) := ⟨_, rfl⟩
  have hz1 : w1.heap.size = w.heap.size + 1 := by rw [hw1]; simp
  have hz2 : w2.heap.size = w.heap.size + 1 + 1 := by rw [hw2]; simp [hz1]
  have hf1 : Fr (fun _ => False) w w1 := by rw [hw1]; exact (Fr.refl _ _).alloc _
  have hf2 : Fr (fun _ => False) w1 w2 := by rw [hw2]; exact (Fr.refl _ _).alloc _
  have hf3 : Fr (fun _ => False) w2 w3 := by rw [hw3]; exact (Fr.refl _ _).alloc _
  have hb3 : w3.heap[w.heap.size]? = some (.cells #[.slice none 0 0, .int .i64 0, .pointer (some ⟨w.heap.size + 1 + 1, 0, none⟩), .int .i64 0] 86 (0, 0)) :=
    hf3.get (hf2.get (by rw [hw1]; exact blk_new _ _) (fun e => e)) (fun e => e)
  have hm3 : SMapAt Tryz.prog 9 w3 (w.heap.size + 1) [] := by
    have h : SMapAt Tryz.prog 9 w2 w1.heap.size [] := by rw [hw2]; exact SMapAt.made w1
    rw [hz1] at h
    exact h.frame hf3 (fun e => e)
  have hr3 : w3.heap[w.heap.size + 1 + 1]? = some (.cells #[.int .i64 0, .int .i64 2, .int .i64 493, .int .i64 1, .int .i64 0, .slice none 0 0, .map (some (w.heap.size + 1)), .pointer none] 90 (0, 0)) := by rw [hw3, ← hz2]; exact blk_new _ _
  have hf03 := (hf1.trans hf2).trans hf3
  obtain ⟨rb, hrb⟩ : ∃ rb, rb = w.heap.size + 1 + 1 := ⟨_, rfl⟩
  rw [← hrb] at hr3 hb3
  rw [← hfb] at hb3
  obtain ⟨w4, hw4⟩ : ∃ w4, w4 = (w3.setCell ⟨rb, 7, none⟩ (.pointer (some ⟨rb, 0, none⟩))).drew := ⟨_, rfl⟩
  have hf34 : Fr (fun k => k = rb) w3 w4 := by rw [hw4]; exact (frSet _ _ _ _).drew
  have hr4 : w4.heap[rb]? = some (.cells #[.int .i64 0, .int .i64 2, .int .i64 493, .int .i64 1, .int .i64 0, .slice none 0 0, .map (some (w.heap.size + 1)), .pointer (some ⟨rb, 0, none⟩)] 90 (0, 0)) := by
    rw [hw4]; exact blk_drew (blk_set hr3 7 (.pointer (some ⟨rb, 0, none⟩)))
  have hb4 := hf34.get hb3 (by omega)
  have hsadd := fun X (hX : X = w4.drew) => sadd_any X fb rb (.slice none 0 0) 0 (.pointer (some ⟨rb, 0, none⟩)) (.int .i64 0) [] (by rw [hX]; exact blk_drew hb4) ⟨rfl, .inl ⟨rfl, rfl⟩⟩ (by decide) (by decide)
  have hsz4 : w4.heap.size = w3.heap.size := by rw [hw4]; simp [World.setCell]
  have hz3 : w3.heap.size = w.heap.size + 1 + 1 + 1 := by rw [hw3]; simp [hz2]
  have hfin := hide (show ∀ X e W, X = w4.drew → AddPost X fb rb (.slice none 0 0) 0 (.pointer (some ⟨rb, 0, none⟩)) (.int .i64 0) [] e W →
      e = .returned (.int .i64 1) ∧ W.cell? ⟨fb, 2, none⟩ = some (.pointer (some ⟨rb, 0, none⟩)) ∧ W.cell? ⟨rb, 0, none⟩ = some (.int .i64 0) ∧ W.frozen? ⟨rb, 0, none⟩ = false ∧ NewPost w (.returned (.pointer (some ⟨fb, 0, none⟩))) (W.setCell ⟨rb, 0, none⟩ (.int .i64 1)) from by
    rintro X e W hX ⟨rfl, lv', h1, h2, h3, h4⟩
    have hrX := blk_drew hr4
    rw [← hX] at hrX
    have hmX : SMapAt Tryz.prog 9 X (w.heap.size + 1) [] := by rw [hX]; exact (hm3.frame hf34 (by omega)).frame (Fr.refl (fun _ => False) _).drew (fun e => e)
    have hfX : Fr (fun k => k = rb) w3 X := by rw [hX]; exact hf34.drew
    have hrW := h3.get hrX (fun e => by (rcases e with e | e; omega; cases e))
    have hmW := hmX.frame h3 (fun e => by (rcases e with e | e; omega; cases e))
    have hszX : X.heap.size = w3.heap.size := by rw [hX]; exact hsz4
    have hlv : ∀ g, lv'.ownBlock = some g → rb < g := fun g e => by
      rcases h4 with h4 | h4
      · rw [h4] at e; cases e
      · rw [h4] at e
        have : X.heap.size + 1 = g := by simpa using e
        omega
    have hfs := frSet W rb 0 (.int .i64 1)
    refine ⟨rfl, by rw [blk_cell h1]; rfl, by rw [blk_cell hrW]; rfl, blk_frozen hrW 0, fb, fun _ => rb, rfl, ⟨fun _ => .slice none 0 0, fun _ => .map (some (w.heap.size + 1)), fun _ => .pointer (some ⟨rb, 0, none⟩), lv', ?_⟩, ?_⟩
    · have hl9 := own_frame h2 hfs (fun g e e2 => by have := hlv g e; omega)
      refine ⟨hfs.get h1 (by omega), hl9, ?_, ?_, ?_, ?_, by omega, fun g e => by have := hlv g e; omega, fun _ _ => by omega, ?_, ?_, fun k hk => ?_, ?_⟩
      · intro i n hn
        obtain ⟨rfl, rfl⟩ := newT_nd hn
        refine ⟨by rw [blk_set hrW]; rfl, .inl ⟨rfl, rfl⟩, fun _ => ⟨rfl, _, rfl, hmW.frame hfs (by omega)⟩, (fun e => by cases e), fun _ _ => rfl, ⟨_, rfl⟩, by decide⟩
      · intro i j hi hj _; rw [newT_some hi, newT_some hj]
      · intro i j g hi hj _ _; rw [newT_some hi, newT_some hj]
      · intro i j m hi hj _ _; rw [newT_some hi, newT_some hj]
      · intro i g _ e; cases e
      · intro i m _ e; cases e; omega
      · have := hf03.size; have := h3.size; have := hfs.size; omega
      · refine ⟨⟨rootN, rfl, rfl, rfl⟩, ?_, ?_, by decide, by decide, by decide, ?_⟩
        · intro i n hn q hq; obtain ⟨rfl, rfl⟩ := newT_nd hn; cases hq
        · intro i n hn _ _; obtain ⟨rfl, rfl⟩ := newT_nd hn; rfl
        · intro i n hn q hq; obtain ⟨rfl, rfl⟩ := newT_nd hn; cases hq
    · have hall : Fr (fun k => w.heap.size ≤ k) w (W.setCell ⟨rb, 0, none⟩ (.int .i64 1)) := (((hf03.mono (fun _ _ e => e.elim)).trans' hfX (fun k _ e => by omega)).trans' h3 (fun k _ e => by (rcases e with e | e; omega; cases e))).trans' hfs (fun k _ e => by omega)
      exact hall.mono (fun i hi e => by omega))
  have c32 : w3.drew.cell? ⟨fb, 2, none⟩ = some (.pointer (some ⟨rb, 0, none⟩)) := by rw [blk_cell (blk_drew hb3)]; rfl
  have z37 : w3.drew.frozen? ⟨rb, 7, none⟩ = false := blk_frozen (blk_drew hr3) 7
  have c37 : w3.drew.cell? ⟨rb, 7, none⟩ = some (.pointer none) := by rw [blk_cell (blk_drew hr3)]; rfl
  have c42 : w4.cell? ⟨fb, 2, none⟩ = some (.pointer (some ⟨rb, 0, none⟩)) := by rw [blk_cell hb4]; rfl
  have Hsadd := hide hsadd
  clear hsadd hf34 hr4 hb4 hb3 hm3 hr3 hf03 hf3 hf2 hf1 hz1 hz2 hz3 hsz4
  go_enter Tryz.func9, Tryz.ntmps9
  go_wp2_with fail
  rw [← hw1, ← hw2, ← hw3, ← hrb, ← hfb]
  clear hw1 hw2 hw3 hrb hfb
  refine region_tail 10 (by kernel_rfl) (by kernel_rfl) ?_
  simp only [List.take_succ_cons, List.take_zero, List.drop_succ_cons, List.drop_zero]
  repeat go_big_quiet_step (fail)
  refine wpQuiet_nil ?_
  go_wp2_with fail
  rw [← hw4]
  refine region_tree (fun W => W.cell? ⟨fb, 2, none⟩ = some (.pointer (some ⟨rb, 0, none⟩))) [0, 1, 2, 3, 4, 5, 6, 7, 8, 9, 10] 1 12 (by kernel_rfl) (by kernel_rfl) (fun _ _ d _ _ h => by cases d <;> exact h) c42 ?_
  simp only [List.map_cons, List.map_nil, List.getD_cons_zero, List.getD_cons_succ, List.drop_succ_cons, List.drop_zero]
  go_big_quiet_step (fail)
  refine wpQuiet_val (.pointer (some ⟨fb, 0, none⟩)) rfl (fun w' hS => by (go_simp)) ?_
  simp only [Act.put, List.setIfInBounds_toArray, List.set_cons_succ, List.set_cons_zero]
  refine wpQuiet_val (.pointer (some ⟨fb, 2, none⟩)) rfl (fun w' hS => by (go_simp)) ?_
  simp only [Act.put, List.setIfInBounds_toArray, List.set_cons_succ, List.set_cons_zero]
  refine wpQuiet_val (.pointer (some ⟨rb, 0, none⟩)) rfl (fun w' hS => by (go_simp)) ?_
  simp only [Act.put, List.setIfInBounds_toArray, List.set_cons_succ, List.set_cons_zero]
  go_big_quiet_step (fail)
  refine wpQuiet_val (.pointer (some ⟨fb, 0, none⟩)) rfl (fun w' hS => by (go_simp)) ?_
  simp only [Act.put, List.setIfInBounds_toArray, List.set_cons_succ, List.set_cons_zero]
  refine wpQuiet_val (.pointer (some ⟨fb, 0, none⟩)) rfl (fun w' hS => by (go_simp)) ?_
  simp only [Act.put, List.setIfInBounds_toArray, List.set_cons_succ, List.set_cons_zero]
  go_big_quiet_step (fail)
  refine wpQuiet_val (.pointer (some ⟨fb, 0, none⟩)) rfl (fun w' hS => by (go_simp)) ?_
  simp only [Act.put, List.setIfInBounds_toArray, List.set_cons_succ, List.set_cons_zero]
  refine wpQuiet_val (.pointer (some ⟨fb, 2, none⟩)) rfl (fun w' hS => by (go_simp)) ?_
  simp only [Act.put, List.setIfInBounds_toArray, List.set_cons_succ, List.set_cons_zero]
  refine wpQuiet_val (.pointer (some ⟨rb, 0, none⟩)) rfl (fun w' hS => by (go_simp)) ?_
  simp only [Act.put, List.setIfInBounds_toArray, List.set_cons_succ, List.set_cons_zero]
  refine wpQuiet_nil ?_
  refine tree_one' 11 (by kernel_rfl) (by decide) (by simp) rfl (fun K hK => ?_)
  simp only [List.getD_cons_zero, List.getD_cons_succ]
  clear hw4
  go_wp2_with fail
  refine (Hsadd.out _ rfl).mono ?_
  rintro e w5 hpost
  obtain ⟨rfl, h52, h50, hz5, hnew⟩ := hfin.out _ _ _ rfl hpost
  refine hK _ _ h52 ?_
  clear hK K hpost hfin Hsadd
  refine tree_end (by kernel_rfl) ?_
  have Hnew := hide hnew
  clear hnew
  try simp only [Act.put, List.setIfInBounds_toArray, List.set_cons_succ, List.set_cons_zero, List.drop_succ_cons, List.drop_zero]
  go_wp2_with fail
  go_ret
  exact Hnew.out
def capT (k : Nat) (σ : FSt) : Bool := σ.all fun o => match o with | none => true | some n => decide (n.links ≤ k) && decide (n.holds ≤ k) && decide (n.ents.length ≤ k)
theorem caps_of {σ : FSt} {k : Nat} (h : capT k σ = true) : Caps σ k := by
  intro i n hn
  obtain ⟨h0, hl⟩ := FSt.nd_lt (show (σ.nd i).isSome = true by rw [hn]; rfl)
  rw [FSt.nd_at h0 (by omega)] at hn
  have := List.all_eq_true.1 h _ (List.getElem_mem (by omega : i - 1 < σ.length))
  rw [hn] at this
  simp only [Bool.and_eq_true, decide_eq_true_eq] at this
  exact ⟨this.1.1, this.1.2, this.2⟩
theorem Caps.mono {σ : FSt} {k l : Nat} (h : Caps σ k) (hkl : k ≤ l) : Caps σ l := fun i n hn => by have := h i n hn; omega
theorem Caps.b {σ : FSt} {k : Nat} (h : Caps σ k) (hk : k ≤ 1000000) : CapB σ := h.mono (by omega)
theorem Ml.below {w w' : World} (h : Ml w) (hf : Fr (fun _ => False) w w') : Ml w' := h.frame hf (fun e => e)
end Go.Proofs.YtffekmjoenppaaaGreatDoor

/- The tree of files as plain data: what floats is let go; one count more; the new tree. No program in sight; no condition. -/
namespace Go.Proofs.YtffekmjoenppaaaGreatDoor
open Go.RowKit

def relS (σ : FSt) (i : Nat) (g : Nd → Nd) : FSt := match σ.nd i with | none => σ | some n => σ.put i (some (g n))
theorem relS_some {σ : FSt} {i : Nat} {n : Nd} (h : σ.nd i = some n) (g : Nd → Nd) : relS σ i g = σ.put i (some (g n)) := by unfold relS; rw [h]
def less (n : Nd) : Nd := { n with links := n.links - 1 }
def more (n : Nd) : Nd := { n with links := n.links + 1 }
theorem same_byts {σ : FSt} {i : Nat} {n n' : Nd} (hn : σ.nd i = some n) (hd : n'.data = n.data) : (σ.put i (some n')).byts = σ.byts := by
  have h1 := FSt.byts_put hn (some n')
  simp only [ndLen, hd] at h1
  omega
theorem Live.rel {σ : FSt} (h : Live σ) {i : Nat} {n n' : Nd} (hn : σ.nd i = some n) (hd : n'.d = n.d) (h1 : i = 1 → n'.links = 1) (he : n'.ents = n.ents) (hp : n'.par = n.par) (hl : 0 < n'.links → 0 < n.links) (hdt : n'.data = n.data) : Live (σ.put i (some n')) :=
  h.put hn hd h1 (by rw [he]; exact h.ents i n hn) (fun e e2 => by rw [hp]; exact h.par i n hn (hd ▸ e) (hl e2)) (by rw [same_byts hn hdt]; exact h.byts) (by rw [he]; exact h.names i n hn)
/-- What floats has a name less: it is let go, if nothing else holds it. -/
theorem Inv.fall {σ : FSt} {k : Nat} (h : Inv σ k) (hL : Live σ) {nk : Nd} (hk : σ.nd k = some nk) (he : nk.d = true → nk.ents = []) :
    Live (σ.put k (some (less nk))) ∧ ((less nk).links = 0 → (less nk).holds = 0 → Live ((σ.put k (some (less nk))).put k none)) ∧ Inv (letS (σ.put k (some (less nk))) k) 0 := by
  have hk1 : k ≠ 1 := h.flat
  have hents : nk.ents = [] := by cases hd : nk.d with
    | true => exact he hd
    | false => exact h.file k nk hk hd
  have hcnt := h.cnt k nk hk hk1
  rw [if_pos rfl] at hcnt
  have hless : (less nk).links = refs σ k := by show nk.links - 1 = _; omega
  have hnd := put_nd hk (some (less nk))
  have hk2 : (σ.put k (some (less nk))).nd k = some (less nk) := by rw [hnd, if_pos rfl]
  have hL2 : Live (σ.put k (some (less nk))) := hL.rel hk rfl (fun e => absurd e hk1) rfl rfl (fun _ => by omega) rfl
  have hr : ∀ j, refs (σ.put k (some (less nk))) j = refs σ j := fun j => by
    have := refs_put hk (some (less nk)) j
    have e : refN j (some (less nk)) = entN j nk.ents := rfl
    omega
  -- no way up leads over k
  have noP : ∀ j n, σ.nd j = some n → n.d = true → n.links ≠ 0 → j ≠ 1 → j ≠ k → n.par ≠ k := fun j n hj h1 h2 h3 h4 e => by
    obtain ⟨m, nm, b1, b2, b3⟩ := h.up j n hj h1 h2 h3 h4
    rw [e, hk] at b1
    cases b1
    exact kget_nil_none b3 hents
  have to1 : ∀ {d e j : Nat}, Dep σ k e j d → ∀ n, σ.nd j = some n → n.d = true → n.links ≠ 0 → j ≠ k → e = 1 := by
    intro d e
    induction d with
    | zero =>
      intro j hd n hj h1 h2 h4
      cases hd with
      | base hb => exact hb.resolve_right h4
    | succ d ih =>
      intro j hd n hj h1 h2 h4
      cases hd with
      | up a1 a2 a3 a4 a5 a6 =>
        obtain ⟨m, nm, b1, b2, b3, _⟩ := h.above a3 a4 a5 a1 a2
        exact ih a6 m b1 b2 b3 (noP j _ a3 a4 a5 a1 a2)
  have kd : nk.d = true → nk.links = 1 := fun hd => by have := h.one k nk hk hd; omega
  -- the tree with k's count lower, in which k need not be alive
  have cs : ∀ j m, (σ.put k (some (less nk))).nd j = some m → (j = k ∧ m = less nk) ∨ (j ≠ k ∧ σ.nd j = some m) := fun j m hj => by
    rw [hnd] at hj
    by_cases e : j = k
    · rw [if_pos e] at hj; cases hj; exact .inl ⟨e, rfl⟩
    · rw [if_neg e] at hj; exact .inr ⟨e, hj⟩
  by_cases hz : (less nk).links = 0 ∧ (less nk).holds = 0
  · have hlet : letS (σ.put k (some (less nk))) k = (σ.put k (some (less nk))).put k none := by unfold letS; rw [hk2]; simp only [if_pos hz]
    have hnd3 := put_nd hk2 none
    have hk0 : refs σ k = 0 := by have := hz.1; omega
    have cs3 : ∀ j m, ((σ.put k (some (less nk))).put k none).nd j = some m → j ≠ k ∧ σ.nd j = some m := fun j m hj => by
      rw [hnd3] at hj
      by_cases e : j = k
      · rw [if_pos e] at hj; cases hj
      · rw [if_neg e] at hj
        exact ⟨e, ((cs j m hj).resolve_left fun h => e h.1).2⟩
    have cf3 : ∀ j m, σ.nd j = some m → j ≠ k → ((σ.put k (some (less nk))).put k none).nd j = some m := fun j m hj e => by rw [hnd3, if_neg e, hnd, if_neg e]; exact hj
    have hr3 : ∀ j, refs ((σ.put k (some (less nk))).put k none) j = refs σ j := fun j => by
      have := refs_put hk2 none j
      have e : entN j (less nk).ents = 0 := by show entN j nk.ents = 0; rw [hents]; rfl
      simp only [refN] at this
      rw [← hr]; omega
    have hLn : Live ((σ.put k (some (less nk))).put k none) := by
      refine ⟨?_, fun j m hj q hq => ?_, fun j m hj hd hl => ?_, ?_, by rw [FSt.put_length]; exact hL2.len, ?_, fun j m hj => hL.names j m (cs3 j m hj).2⟩
      · obtain ⟨r, h1, h2, h3⟩ := hL.root
        exact ⟨r, cf3 1 r h1 (fun e => hk1 e.symm), h2, h3⟩
      · obtain ⟨e, hj⟩ := cs3 j m hj
        have hs := hL.ents j m hj q hq
        obtain ⟨x, hx⟩ := Option.isSome_iff_exists.1 hs
        have hqk : q.2 ≠ k := fun e2 => by
          have h1 := refs_ge hj q.2
          have h2 := entN_mem (L := m.ents) (i := q.2) (s := q.1) hq
          rw [e2, hk0] at h1
          rw [e2] at h2
          omega
        rw [cf3 _ x hx hqk]; rfl
      · obtain ⟨e, hj⟩ := cs3 j m hj
        have hs := hL.par j m hj hd hl
        obtain ⟨x, hx⟩ := Option.isSome_iff_exists.1 hs
        by_cases j1 : j = 1
        · -- the root's own
          rw [j1] at hj
          have e2 : m.par ≠ k := by rw [h.rootp m hj]; exact fun e => hk1 e.symm
          rw [cf3 _ x hx e2]; rfl
        · rw [cf3 _ x hx (noP j m hj hd (by omega) j1 e)]; rfl
      · have := FSt.cnt_put (show ((σ.put k (some (less nk))).nd k).isSome = true by rw [hk2]; rfl) none
        have h9 := hL2.cnt
        have e1 : Go.Proofs.YtffekmjoenppaaaGreatDoor.one none = 0 := rfl
        omega
      · have := FSt.byts_put hk2 none
        have h9 := hL2.byts
        have e1 : ndLen none = 0 := rfl
        omega
    refine ⟨hL2, fun _ _ => hLn, ?_⟩
    rw [hlet]
    refine ⟨fun j m hj h1 => ?_, by rw [hr3]; exact h.root, fun j m hj h1 => h.one j m (cs3 j m hj).2 h1, fun j m hj h1 h2 => h.dead j m (cs3 j m hj).2 h1 h2, fun j m hj h1 h2 h3 h4 => ?_, fun j m hj h1 h2 => ?_, fun j m hj => h.srt j m (cs3 j m hj).2, fun j m hj h1 => h.file j m (cs3 j m hj).2 h1, fun j m hj => h.alive j m (cs3 j m hj).2, by decide, fun m hj => h.rootp m (cs3 1 m hj).2⟩
    · obtain ⟨e, hj⟩ := cs3 j m hj
      rw [hr3, h.cnt j m hj h1, if_neg e, if_neg (nd_pos hj)]
    · obtain ⟨e, hj⟩ := cs3 j m hj
      obtain ⟨q, nm, b1, b2, b3⟩ := h.up j m hj h1 h2 h3 e
      exact ⟨q, nm, cf3 _ q b1 (noP j m hj h1 h2 h3 e), b2, b3⟩
    · obtain ⟨e, hj⟩ := cs3 j m hj
      obtain ⟨z, d, hd⟩ := h.deep j m hj h1 h2
      have hz1 := to1 hd m hj h1 h2 e
      rw [hz1] at hd
      exact ⟨1, d, hd.same (.inl rfl) fun i n b1 b2 b3 b4 b5 => ⟨nd_pos b3, n, cf3 i n b3 b2, b4, b5, rfl⟩⟩
  · have hlet : letS (σ.put k (some (less nk))) k = σ.put k (some (less nk)) := by unfold letS; rw [hk2]; simp only [if_neg hz]
    refine ⟨hL2, fun a b => absurd ⟨a, b⟩ hz, ?_⟩
    rw [hlet]
    have cf : ∀ j m, σ.nd j = some m → j ≠ k → (σ.put k (some (less nk))).nd j = some m := fun j m hj e => by rw [hnd, if_neg e]; exact hj
    have kl : nk.d = true → (less nk).links = 0 := fun hd => by show nk.links - 1 = 0; have := kd hd; omega
    refine ⟨fun j m hj h1 => ?_, by rw [hr]; exact h.root, fun j m hj h1 => ?_, fun j m hj h1 h2 => ?_, fun j m hj h1 h2 h3 h4 => ?_, fun j m hj h1 h2 => ?_, fun j m hj => ?_, fun j m hj h1 => ?_, fun j m hj => ?_, by decide, fun m hj => h.rootp m ((cs 1 m hj).resolve_left fun e => hk1 e.1.symm).2⟩
    · rcases cs j m hj with ⟨rfl, rfl⟩ | ⟨e, hj⟩
      · rw [hless, hr, if_neg (nd_pos hk)]; rfl
      · rw [hr, h.cnt j m hj h1, if_neg e, if_neg (nd_pos hj)]
    · rcases cs j m hj with ⟨rfl, rfl⟩ | ⟨e, hj⟩
      · have := kl h1; omega
      · exact h.one j m hj h1
    · rcases cs j m hj with ⟨rfl, rfl⟩ | ⟨e, hj⟩
      · exact hents
      · exact h.dead j m hj h1 h2
    · rcases cs j m hj with ⟨rfl, rfl⟩ | ⟨e, hj⟩
      · exact absurd (kl h1) h2
      · obtain ⟨q, nm, b1, b2, b3⟩ := h.up j m hj h1 h2 h3 e
        exact ⟨q, nm, cf _ q b1 (noP j m hj h1 h2 h3 e), b2, b3⟩
    · rcases cs j m hj with ⟨rfl, rfl⟩ | ⟨e, hj⟩
      · exact absurd (kl h1) h2
      · obtain ⟨z, d, hd⟩ := h.deep j m hj h1 h2
        have hz1 := to1 hd m hj h1 h2 e
        rw [hz1] at hd
        exact ⟨1, d, hd.same (.inl rfl) fun i n b1 b2 b3 b4 b5 => ⟨nd_pos b3, n, cf i n b3 b2, b4, b5, rfl⟩⟩
    · rcases cs j m hj with ⟨rfl, rfl⟩ | ⟨e, hj⟩
      · exact h.srt j nk hk
      · exact h.srt j m hj
    · rcases cs j m hj with ⟨rfl, rfl⟩ | ⟨e, hj⟩
      · exact hents
      · exact h.file j m hj h1
    · rcases cs j m hj with ⟨rfl, rfl⟩ | ⟨e, hj⟩
      · apply Decidable.byContradiction
        intro e
        apply hz
        omega
      · exact h.alive j m hj
/-- A file's name more, that no entry bears yet. -/
theorem Inv.inc {σ : FSt} (h : Inv σ 0) {k : Nat} {nk : Nd} (hk : σ.nd k = some nk) (hd : nk.d = false) (hk1 : k ≠ 1) : Inv (σ.put k (some (more nk))) k := by
  have hnd := put_nd hk (some (more nk))
  have hr : ∀ j, refs (σ.put k (some (more nk))) j = refs σ j := fun j => by
    have := refs_put hk (some (more nk)) j
    have e : refN j (some (more nk)) = entN j nk.ents := rfl
    omega
  have cs : ∀ j m, (σ.put k (some (more nk))).nd j = some m → (j = k ∧ m = more nk) ∨ (j ≠ k ∧ σ.nd j = some m) := fun j m hj => by
    rw [hnd] at hj
    by_cases e : j = k
    · rw [if_pos e] at hj; cases hj; exact .inl ⟨e, rfl⟩
    · rw [if_neg e] at hj; exact .inr ⟨e, hj⟩
  have cf : ∀ j m, σ.nd j = some m → m.d = true → j ≠ k ∧ (σ.put k (some (more nk))).nd j = some m := fun j m hj h1 => by
    have e : j ≠ k := fun e => by rw [e, hk] at hj; cases hj; rw [hd] at h1; cases h1
    exact ⟨e, by rw [hnd, if_neg e]; exact hj⟩
  have md : (more nk).d = false := hd
  refine ⟨fun j m hj h1 => ?_, by rw [hr]; exact h.root, fun j m hj h1 => ?_, fun j m hj h1 h2 => ?_, fun j m hj h1 h2 h3 h4 => ?_, fun j m hj h1 h2 => ?_, fun j m hj => ?_, fun j m hj h1 => ?_, fun j m hj => ?_, hk1, fun m hj => h.rootp m ((cs 1 m hj).resolve_left fun e => hk1 e.1.symm).2⟩
  · rcases cs j m hj with ⟨rfl, rfl⟩ | ⟨e, hj⟩
    · have := h.cnt j nk hk h1
      rw [if_neg (nd_pos hk)] at this
      rw [hr, if_pos rfl]
      show nk.links + 1 = _
      omega
    · rw [hr, h.cnt j m hj h1, if_neg e, if_neg (nd_pos hj)]
  · rcases cs j m hj with ⟨rfl, rfl⟩ | ⟨e, hj⟩
    · rw [md] at h1; cases h1
    · exact h.one j m hj h1
  · rcases cs j m hj with ⟨rfl, rfl⟩ | ⟨e, hj⟩
    · rw [md] at h1; cases h1
    · exact h.dead j m hj h1 h2
  · rcases cs j m hj with ⟨rfl, rfl⟩ | ⟨e, hj⟩
    · rw [md] at h1; cases h1
    · obtain ⟨q, nm, b1, b2, b3⟩ := h.up j m hj h1 h2 h3 (nd_pos hj)
      exact ⟨q, nm, (cf _ q b1 b2).2, b2, b3⟩
  · rcases cs j m hj with ⟨rfl, rfl⟩ | ⟨e, hj⟩
    · rw [md] at h1; cases h1
    · obtain ⟨d, hd⟩ := h.to_root hj h1 h2
      exact ⟨1, d, hd.same (.inl rfl) fun i n b1 b2 b3 b4 b5 => ⟨(cf i n b3 b4).1, n, (cf i n b3 b4).2, b4, b5, rfl⟩⟩
  · rcases cs j m hj with ⟨rfl, rfl⟩ | ⟨e, hj⟩
    · exact h.srt j nk hk
    · exact h.srt j m hj
  · rcases cs j m hj with ⟨rfl, rfl⟩ | ⟨e, hj⟩
    · exact h.file j nk hk hd
    · exact h.file j m hj h1
  · rcases cs j m hj with ⟨rfl, rfl⟩ | ⟨e, hj⟩
    · exact .inl (Nat.succ_ne_zero _)
    · exact h.alive j m hj
theorem Inv.new : Inv newT 0 := by
  have key : ∀ i n, newT.nd i = some n → i = 1 ∧ n = rootN := fun i n h => newT_nd h
  refine ⟨fun i n h h1 => absurd (key i n h).1 h1, rfl, ?_, ?_, fun i n h _ _ h1 => absurd (key i n h).1 h1, ?_, ?_, ?_, ?_, by decide, ?_⟩
  · intro i n h _; obtain ⟨rfl, rfl⟩ := key i n h; exact Nat.le_refl _
  · intro i n h _ _; obtain ⟨rfl, rfl⟩ := key i n h; rfl
  · intro i n h _ _; obtain ⟨rfl, rfl⟩ := key i n h; exact ⟨1, 0, .base (.inl rfl)⟩
  · intro i n h; obtain ⟨rfl, rfl⟩ := key i n h; exact List.Pairwise.nil
  · intro i n h h1; obtain ⟨rfl, rfl⟩ := key i n h; cases h1
  · intro i n h; obtain ⟨rfl, rfl⟩ := key i n h; exact .inl (by decide)
  · intro n h; obtain ⟨_, rfl⟩ := key 1 n h; rfl
end Go.Proofs.YtffekmjoenppaaaGreatDoor
