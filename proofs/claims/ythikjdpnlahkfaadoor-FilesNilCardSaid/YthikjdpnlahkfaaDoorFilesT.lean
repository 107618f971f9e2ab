/- files.New, shyardlaw08.awake. No condition but the library's own variable. -/
import Derived.Test.YthikjdpnlahkfaaDoorFilesS
namespace Go.Proofs.YthikjdpnlahkfaaDoor
open Go.RowKit

def rootN : Nd := ⟨true, 493, 1, 0, [], [], 1⟩
def newT : FSt := [some rootN]
theorem newT_nd {i : Nat} {n : Nd} (h : newT.nd i = some n) : i = 1 ∧ n = rootN := by
  have := FSt.nd_lt (σ := newT) (i := i) (by rw [h]; rfl)
  have e : i = 1 := by have h2 : newT.length = 1 := rfl; omega
  subst e
  cases h
  exact ⟨rfl, rfl⟩
theorem newT_some {i : Nat} (h : (newT.nd i).isSome = true) : i = 1 := by
  obtain ⟨n, hn⟩ := Option.isSome_iff_exists.1 h
  exact (newT_nd hn).1
def NewPost (w : World) (e : Ending) (w' : World) : Prop := ∃ f p, e = .returned (.pointer (some ⟨f, 0, none⟩)) ∧ FilesAt w' f newT (fun k => w.heap.size ≤ k) p ∧ Fr (fun _ => False) w w'
set_option maxRecDepth 100000 in
set_option maxHeartbeats 1000000 in
theorem New_any (w : World) : Calls Tryd.prog 10 #[] w (NewPost w) := by
  have hmm := @run_makeMap Tryd.prog
  obtain ⟨fb, hfb⟩ : ∃ fb, fb = w.heap.size := ⟨_, rfl⟩
  obtain ⟨w1, hw1⟩ : ∃ w1, w1 = w.alloc (.cells #[.slice none 0 0, .int .i64 0, .pointer (some ⟨w.heap.size + 1 + 1, 0, none⟩), .int .i64 0] 69 (0, 0)) := ⟨_, rfl⟩
  obtain ⟨w2, hw2⟩ : ∃ w2, w2 = w1.alloc (.map #[] 0) := ⟨_, rfl⟩
  obtain ⟨w3, hw3⟩ : ∃ w3, w3 = w2.alloc (.cells #[.int .i64 0, .int .i64 2, .int .i64 493, .int .i64 1, .int .i64 0, .slice none 0 0, .map (some (w.heap.size + 1)), .pointer none] 73 (0, 0)) := ⟨_, rfl⟩
  have hz1 : w1.heap.size = w.heap.size + 1 := by rw [hw1]; simp
  have hz2 : w2.heap.size = w.heap.size + 1 + 1 := by rw [hw2]; simp [hz1]
  have hf1 : Fr (fun _ => False) w w1 := by rw [hw1]; exact (Fr.refl _ _).alloc _
  have hf2 : Fr (fun _ => False) w1 w2 := by rw [hw2]; exact (Fr.refl _ _).alloc _
  have hf3 : Fr (fun _ => False) w2 w3 := by rw [hw3]; exact (Fr.refl _ _).alloc _
  have hb3 : w3.heap[w.heap.size]? = some (.cells #[.slice none 0 0, .int .i64 0, .pointer (some ⟨w.heap.size + 1 + 1, 0, none⟩), .int .i64 0] 69 (0, 0)) :=
    hf3.get (hf2.get (by rw [hw1]; exact blk_new _ _) (fun e => e)) (fun e => e)
  have hm3 : SMapAt Tryd.prog 9 w3 (w.heap.size + 1) [] := by
    have h : SMapAt Tryd.prog 9 w2 w1.heap.size [] := by rw [hw2]; exact SMapAt.made w1
    rw [hz1] at h
    exact h.frame hf3 (fun e => e)
  have hr3 : w3.heap[w.heap.size + 1 + 1]? = some (.cells #[.int .i64 0, .int .i64 2, .int .i64 493, .int .i64 1, .int .i64 0, .slice none 0 0, .map (some (w.heap.size + 1)), .pointer none] 73 (0, 0)) := by rw [hw3, ← hz2]; exact blk_new _ _
  have hf03 := (hf1.trans hf2).trans hf3
  obtain ⟨rb, hrb⟩ : ∃ rb, rb = w.heap.size + 1 + 1 := ⟨_, rfl⟩
  rw [← hrb] at hr3 hb3
  rw [← hfb] at hb3
  obtain ⟨w4, hw4⟩ : ∃ w4, w4 = (w3.setCell ⟨rb, 7, none⟩ (.pointer (some ⟨rb, 0, none⟩))).drew := ⟨_, rfl⟩
  have hf34 : Fr (fun k => k = rb) w3 w4 := by rw [hw4]; exact (frSet _ _ _ _).drew
  have hr4 : w4.heap[rb]? = some (.cells #[.int .i64 0, .int .i64 2, .int .i64 493, .int .i64 1, .int .i64 0, .slice none 0 0, .map (some (w.heap.size + 1)), .pointer (some ⟨rb, 0, none⟩)] 73 (0, 0)) := by
    rw [hw4]; exact blk_drew (blk_set hr3 7 (.pointer (some ⟨rb, 0, none⟩)))
  have hb4 := hf34.get hb3 (by omega)
  have hsadd := fun X (hX : X = w4.drew) => sadd_any X fb rb (.slice none 0 0) 0 (.pointer (some ⟨rb, 0, none⟩)) (.int .i64 0) [] (by rw [hX]; exact blk_drew hb4) ⟨rfl, .inl ⟨rfl, rfl⟩⟩ (by decide) (by decide)
  have hsz4 : w4.heap.size = w3.heap.size := by rw [hw4]; simp [World.setCell]
  have hz3 : w3.heap.size = w.heap.size + 1 + 1 + 1 := by rw [hw3]; simp [hz2]
  have hfin := hide (show ∀ X e W, X = w4.drew → AddPost X fb rb (.slice none 0 0) 0 (.pointer (some ⟨rb, 0, none⟩)) (.int .i64 0) [] e W →
      e = .returned (.int .i64 1) ∧ W.cell? ⟨fb, 2, none⟩ = some (.pointer (some ⟨rb, 0, none⟩)) ∧ W.cell? ⟨rb, 0, none⟩ = some (.int .i64 0) ∧ W.frozen? ⟨rb, 0, none⟩ = false ∧ NewPost w (.returned (.pointer (some ⟨fb, 0, none⟩))) (W.setCell ⟨rb, 0, none⟩ (.int .i64 1)) from by
    rintro X e W hX ⟨rfl, lv', h1, h2, h3, h4⟩
    have hrX := blk_drew hr4
    rw [← hX] at hrX
    have hmX : SMapAt Tryd.prog 9 X (w.heap.size + 1) [] := by rw [hX]; exact (hm3.frame hf34 (by omega)).frame (Fr.refl (fun _ => False) _).drew (fun e => e)
    have hfX : Fr (fun k => k = rb) w3 X := by rw [hX]; exact hf34.drew
    have hrW := h3.get hrX (fun e => by (rcases e with e | e; omega; cases e))
    have hmW := hmX.frame h3 (fun e => by (rcases e with e | e; omega; cases e))
    have hszX : X.heap.size = w3.heap.size := by rw [hX]; exact hsz4
    have hlv : ∀ g, lv'.ownBlock = some g → rb < g := fun g e => by
      rcases h4 with h4 | h4
      · rw [h4] at e; cases e
      · rw [h4] at e
        have : X.heap.size + 1 = g := by simpa using e
        omega
    have hfs := frSet W rb 0 (.int .i64 1)
    refine ⟨rfl, by rw [blk_cell h1]; rfl, by rw [blk_cell hrW]; rfl, blk_frozen hrW 0, fb, fun _ => rb, rfl, ⟨fun _ => .slice none 0 0, fun _ => .map (some (w.heap.size + 1)), fun _ => .pointer (some ⟨rb, 0, none⟩), lv', ?_⟩, ?_⟩
    · have hl9 := own_frame h2 hfs (fun g e e2 => by have := hlv g e; omega)
      refine ⟨hfs.get h1 (by omega), hl9, ?_, ?_, ?_, ?_, by omega, fun g e => by have := hlv g e; omega, fun _ _ => by omega, ?_, ?_, fun k hk => ?_, ?_⟩
      · intro i n hn
        obtain ⟨rfl, rfl⟩ := newT_nd hn
        refine ⟨by rw [blk_set hrW]; rfl, .inl ⟨rfl, rfl⟩, fun _ => ⟨rfl, _, rfl, hmW.frame hfs (by omega)⟩, (fun e => by cases e), fun _ _ => rfl, ⟨_, rfl⟩, by decide⟩
      · intro i j hi hj _; rw [newT_some hi, newT_some hj]
      · intro i j g hi hj _ _; rw [newT_some hi, newT_some hj]
      · intro i j m hi hj _ _; rw [newT_some hi, newT_some hj]
      · intro i g _ e; cases e
      · intro i m _ e; cases e; omega
      · have := hf03.size; have := h3.size; have := hfs.size; omega
      · refine ⟨⟨rootN, rfl, rfl, rfl⟩, ?_, ?_, by decide, by decide, by decide, ?_⟩
        · intro i n hn q hq; obtain ⟨rfl, rfl⟩ := newT_nd hn; cases hq
        · intro i n hn _ _; obtain ⟨rfl, rfl⟩ := newT_nd hn; rfl
        · intro i n hn q hq; obtain ⟨rfl, rfl⟩ := newT_nd hn; cases hq
    · have hall : Fr (fun k => w.heap.size ≤ k) w (W.setCell ⟨rb, 0, none⟩ (.int .i64 1)) := (((hf03.mono (fun _ _ e => e.elim)).trans' hfX (fun k _ e => by omega)).trans' h3 (fun k _ e => by (rcases e with e | e; omega; cases e))).trans' hfs (fun k _ e => by omega)
      exact hall.mono (fun i hi e => by omega))
  have c32 : w3.drew.cell? ⟨fb, 2, none⟩ = some (.pointer (some ⟨rb, 0, none⟩)) := by rw [blk_cell (blk_drew hb3)]; rfl
  have z37 : w3.drew.frozen? ⟨rb, 7, none⟩ = false := blk_frozen (blk_drew hr3) 7
  have c37 : w3.drew.cell? ⟨rb, 7, none⟩ = some (.pointer none) := by rw [blk_cell (blk_drew hr3)]; rfl
  have c42 : w4.cell? ⟨fb, 2, none⟩ = some (.pointer (some ⟨rb, 0, none⟩)) := by rw [blk_cell hb4]; rfl
  have Hsadd := hide hsadd
  clear hsadd hf34 hr4 hb4 hb3 hm3 hr3 hf03 hf3 hf2 hf1 hz1 hz2 hz3 hsz4
  go_enter Tryd.func10, Tryd.ntmps10
  go_wp2_with fail
  rw [← hw1, ← hw2, ← hw3, ← hrb, ← hfb]
  clear hw1 hw2 hw3 hrb hfb
  refine region_tail 10 (by kernel_rfl) (by kernel_rfl) ?_
  simp only [List.take_succ_cons, List.take_zero, List.drop_succ_cons, List.drop_zero]
  repeat go_big_quiet_step (fail)
  refine wpQuiet_nil ?_
  go_wp2_with fail
  rw [← hw4]
  refine region_tree (fun W => W.cell? ⟨fb, 2, none⟩ = some (.pointer (some ⟨rb, 0, none⟩))) [0, 1, 2, 3, 4, 5, 6, 7, 8, 9, 10] 1 12 (by kernel_rfl) (by kernel_rfl) (fun _ _ d _ _ h => by cases d <;> exact h) c42 ?_
  simp only [List.map_cons, List.map_nil, List.getD_cons_zero, List.getD_cons_succ, List.drop_succ_cons, List.drop_zero]
  go_big_quiet_step (fail)
  refine wpQuiet_val (.pointer (some ⟨fb, 0, none⟩)) rfl (fun w' hS => by (go_simp)) ?_
  simp only [Act.put, List.setIfInBounds_toArray, List.set_cons_succ, List.set_cons_zero]
  refine wpQuiet_val (.pointer (some ⟨fb, 2, none⟩)) rfl (fun w' hS => by (go_simp)) ?_
  simp only [Act.put, List.setIfInBounds_toArray, List.set_cons_succ, List.set_cons_zero]
  refine wpQuiet_val (.pointer (some ⟨rb, 0, none⟩)) rfl (fun w' hS => by (go_simp)) ?_
  simp only [Act.put, List.setIfInBounds_toArray, List.set_cons_succ, List.set_cons_zero]
  go_big_quiet_step (fail)
  refine wpQuiet_val (.pointer (some ⟨fb, 0, none⟩)) rfl (fun w' hS => by (go_simp)) ?_
  simp only [Act.put, List.setIfInBounds_toArray, List.set_cons_succ, List.set_cons_zero]
  refine wpQuiet_val (.pointer (some ⟨fb, 0, none⟩)) rfl (fun w' hS => by (go_simp)) ?_
  simp only [Act.put, List.setIfInBounds_toArray, List.set_cons_succ, List.set_cons_zero]
  go_big_quiet_step (fail)
  refine wpQuiet_val (.pointer (some ⟨fb, 0, none⟩)) rfl (fun w' hS => by (go_simp)) ?_
  simp only [Act.put, List.setIfInBounds_toArray, List.set_cons_succ, List.set_cons_zero]
  refine wpQuiet_val (.pointer (some ⟨fb, 2, none⟩)) rfl (fun w' hS => by (go_simp)) ?_
  simp only [Act.put, List.setIfInBounds_toArray, List.set_cons_succ, List.set_cons_zero]
  refine wpQuiet_val (.pointer (some ⟨rb, 0, none⟩)) rfl (fun w' hS => by (go_simp)) ?_
  simp only [Act.put, List.setIfInBounds_toArray, List.set_cons_succ, List.set_cons_zero]
  refine wpQuiet_nil ?_
  refine tree_one' 11 (by kernel_rfl) (by decide) (by simp) rfl (fun K hK => ?_)
  simp only [List.getD_cons_zero, List.getD_cons_succ]
  clear hw4
  go_wp2_with fail
  refine (Hsadd.out _ rfl).mono ?_
  rintro e w5 hpost
  obtain ⟨rfl, h52, h50, hz5, hnew⟩ := hfin.out _ _ _ rfl hpost
  refine hK _ _ h52 ?_
  clear hK K hpost hfin Hsadd
  refine tree_end (by kernel_rfl) ?_
  have Hnew := hide hnew
  clear hnew
  try simp only [Act.put, List.setIfInBounds_toArray, List.set_cons_succ, List.set_cons_zero, List.drop_succ_cons, List.drop_zero]
  go_wp2_with fail
  go_ret
  exact Hnew.out
def capT (k : Nat) (σ : FSt) : Bool := σ.all fun o => match o with | none => true | some n => decide (n.links ≤ k) && decide (n.holds ≤ k) && decide (n.ents.length ≤ k)
theorem caps_of {σ : FSt} {k : Nat} (h : capT k σ = true) : Caps σ k := by
  intro i n hn
  obtain ⟨h0, hl⟩ := FSt.nd_lt (show (σ.nd i).isSome = true by rw [hn]; rfl)
  rw [FSt.nd_at h0 (by omega)] at hn
  have := List.all_eq_true.1 h _ (List.getElem_mem (by omega : i - 1 < σ.length))
  rw [hn] at this
  simp only [Bool.and_eq_true, decide_eq_true_eq] at this
  exact ⟨this.1.1, this.1.2, this.2⟩
theorem Caps.mono {σ : FSt} {k l : Nat} (h : Caps σ k) (hkl : k ≤ l) : Caps σ l := fun i n hn => by have := h i n hn; omega
theorem Caps.b {σ : FSt} {k : Nat} (h : Caps σ k) (hk : k ≤ 1000000) : CapB σ := h.mono (by omega)
def sd : ByteArray := ⟨#[100]⟩
def sdf : ByteArray := ⟨#[100, 47, 102]⟩
def sx : ByteArray := ⟨#[120]⟩
def sdx : ByteArray := ⟨#[47, 100, 47, 46, 47, 102]⟩
def awk1 : FSt := [some { rootN with ents := [([100], 2)] }, some ⟨true, 493, 1, 0, [], [], 1⟩]
def awk2 : FSt := [some { rootN with ents := [([100], 2)] }, some ⟨true, 493, 1, 0, [], [([102], 3)], 1⟩, some ⟨false, 420, 1, 0, [], [], 2⟩]
def awk3 : FSt := [some { rootN with ents := [([100], 2)] }, some ⟨true, 493, 1, 0, [], [([102], 3)], 1⟩, some ⟨false, 420, 1, 0, [0, 0, 120], [], 2⟩]
theorem awk_1 : makeR newT 1 sd.data.toList true 493 = (0, awk1) := by kernel_rfl
theorem awk_2 : createR awk1 1 sdf.data.toList 420 = (3, 0, awk2) := by kernel_rfl
theorem awk_3 : writeR awk2 3 2 sx.data.toList = (1, 0, awk3) := by kernel_rfl
theorem awk_4 : walkE awk3 1 sdx.data.toList = (0, 3) := by kernel_rfl
theorem Ml.below {w w' : World} (h : Ml w) (hf : Fr (fun _ => False) w w') : Ml w' := h.frame hf (fun e => e)
def AwakePost (w : World) (e : Ending) (w' : World) : Prop := e = .returned (.bool true) ∧ Fr (fun _ => False) w w'
set_option maxRecDepth 100000 in
set_option maxHeartbeats 1000000 in
theorem awake_any (w : World) (hml : Ml w) : Calls Tryd.prog 9 #[] w (AwakePost w) := by
  have hmlt : ¬ w.heap.size ≤ Tryd.laysSplit_ren.g 1 := by
    obtain ⟨m, hm⟩ := hml
    have := World.block_lt_of_cell? _ _ hm
    exact Nat.not_le.2 this
  have Hml := hide hml
  have Hlt := hide hmlt
  clear hml hmlt
  go_enter Tryd.func9, Tryd.ntmps9
  go_wp2_with fail
  refine (New_any w).mono ?_
  rintro e w1 ⟨f, p1, rfl, hA1, hf1⟩
  have hg1 := hf1.mono (S' := fun k => w.heap.size ≤ k) (fun _ _ e => e.elim)
  have h := hide (Mkdir_any w1 f newT _ p1 hA1 (Hml.out.frame hg1 Hlt.out) (caps_of (k := 1) rfl |>.b (by decide)) 1 (by decide) sd (by decide) 493 (by decide))
  rw [awk_1] at h
  clear hA1 hf1
  go_wp2_with fail
  refine h.out.mono ?_
  rintro e w2 ⟨rfl, ⟨p2, hA2⟩, hf2⟩
  have hg2 := hg1.trans hf2
  clear h hf2 hg1
  have h := hide (Create_any w2 f awk1 _ p2 hA2 (Hml.out.frame hg2 Hlt.out) (caps_of (k := 1) rfl |>.b (by decide)) 1 (by decide) sdf (by decide) 420 (by decide))
  rw [awk_2] at h
  clear hA2
  go_wp2_with fail
  refine h.out.mono ?_
  rintro e w3 ⟨rfl, ⟨p3, hA3⟩, hf3⟩
  have hg3 := hg2.trans hf3
  clear h hf3 hg2
  have h := hide (Write_any w3 f awk2 _ p3 hA3 3 2 sx (by decide) (by decide) (by decide))
  rw [awk_3] at h
  clear hA3
  go_wp2_with fail
  refine h.out.mono ?_
  rintro e w4 ⟨rfl, hA4, hf4⟩
  have hg4 := hg3.trans hf4
  clear h hf4 hg3
  have h := hide (Walk_any w4 f awk3 _ p3 hA4 (Hml.out.frame hg4 Hlt.out) 1 (by decide) sdx (by decide))
  rw [awk_4] at h
  go_wp2_with fail
  refine h.out.mono ?_
  rintro e w5 ⟨rfl, hf5⟩
  have hA5 := hA4.frame hf5 (fun _ _ _ e => e)
  have hg5 := hg4.trans' hf5 (fun _ _ e => e.elim)
  clear h hf5 hg4 hA4
  have h := hide (Bytes_any w5 f awk3 _ p3 hA5)
  rw [show (awk3.byts : Int) = 3 from rfl] at h
  clear hA5
  go_wp2_with fail
  refine h.out.mono ?_
  rintro e w6 ⟨rfl, rfl⟩
  clear h
  have hres := hide (hg5.mono (S' := fun _ => False) (fun i hi e => by omega))
  clear hg5
  go_wp2_with fail
  go_ret
  exact ⟨rfl, hres.out⟩
end Go.Proofs.YthikjdpnlahkfaaDoor
