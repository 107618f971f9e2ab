/- The document's variables: put. Conditions: each contract's own premises. -/
import Derived.Test.YtcojeojmodjmdaaVarsRefL
import Derived.Test.YtcojeojmodjmdaaRegionTree
namespace Go.Proofs.Ytcojeojmodjmdaa
open Go.RowKit

theorem Try.info67 : (Try.prog.info? 67).map (fun i => (i.zero, i.size, i.bytes)) = some (some (.agg #[.string ⟨#[]⟩, .string ⟨#[]⟩, .bool false, .bool false, .bool false]), 5, 40) := by kernel_rfl
def PutPost (w : World) (r : Nat) (M' : KA VR) (args : List ByteArray) (S : Nat → Prop) (e : Ending) (w' : World) : Prop := e = .returned (.tuple #[]) ∧ RvAt w' r M' args S ∧ Fr (fun k => k = r) w w'
/-- A new list in its place. -/
theorem RvF.newList {w w' : World} {r : Nat} {M M' : KA VR} {args : List ByteArray} {S : Nat → Prop} {lv av v : Value} (h : RvF w r M args S lv av) (hf : Fr (fun _ => False) w w') (hl : w'.ownsRow w.heap.size 67 5 v M'.length (lcells M')) :
    RvAt (w'.setCell ⟨r, 0, none⟩ v) r M' args S ∧ Fr (fun k => k = r) w (w'.setCell ⟨r, 0, none⟩ v) := by
  have hfs := frSet w' r 0 v
  have h' := h.frame hf (fun _ _ _ e => e)
  have hb := blk_lt h.hb
  refine ⟨⟨v, av, by rw [blk_set h'.hb]; rfl, own_base (own_frame hl hfs (fun g e => by have := (hl.lt g e).1; omega)) (fun _ _ => Nat.zero_le _), fun g e => h.up g (hl.lt g e).1, ?_, h.own, fun k hk => h'.up k (by simpa [World.setCell] using hk)⟩, (hf.mono (fun _ _ e => e.elim)).trans hfs⟩
  obtain ⟨a, cap, h1, h2, h3, h4⟩ := h'.ha
  refine ⟨a, cap, h1, h2, h3, ?_⟩
  by_cases h0 : args = []
  · exact .inl h0
  rcases h4 with h4 | ⟨g, o, h5, h6, h7, h8⟩
  · exact .inl h4
  have hne : g ≠ r := by
    rintro rfl
    have hlen : 0 < args.length := List.length_pos_iff.2 h0
    have h9 := h8 0 hlen
    rw [blk_cell h'.hb] at h9
    subst h1
    obtain ⟨la, lc, rfl, _⟩ := h'.row
    rcases o with _ | _ | o <;> simp at h9
  exact .inr ⟨g, o, h5, h6, by simpa [World.setCell] using h7, fun k hk => (World.cell?_of_block (w := w') (a := ⟨g, o + k, none⟩) (hfs.block g h7 hne)).trans (h8 k hk)⟩
set_option maxRecDepth 100000 in
set_option maxHeartbeats 4000000 in
theorem rput_found (w : World) (r : Nat) (M : KA VR) (args : List ByteArray) (S : Nat → Prop) (h : RvAt w r M args S) (hM : M.length ≤ 64) (hs : KSorted M) (s : ByteArray) (X : VR) (hg : (kget s.data.toList M).isSome = true) :
    Calls Try.prog 36 #[.pointer (some ⟨r, 0, none⟩), .agg #[.string s, .string X.value, .bool X.e, .bool X.r, .bool X.u]] w (PutPost w r (kput s.data.toList X M) args S) := by
  obtain ⟨i0, hinf, hz0, hz1, hz2⟩ := info_parts Try.info67
  obtain ⟨v, xe, ro, u⟩ := X
  simp only
  go_enter Try.func36, Try.ntmps36
  obtain ⟨W1, hW1⟩ : ∃ W1, W1 = w.alloc (.cells #[.string s, .string v, .bool xe, .bool ro, .bool u] 67 (0, 0)) := ⟨_, rfl⟩
  have hf1 : Fr (fun _ => False) w W1 := by rw [hW1]; exact (Fr.refl _ _).alloc _
  have hb1 : W1.heap[w.heap.size]? = some (.cells #[.string s, .string v, .bool xe, .bool ro, .bool u] 67 (0, 0)) := by rw [hW1]; exact blk_new _ _
  have hsz1 : W1.heap.size = w.heap.size + 1 := by rw [hW1]; simp
  have hr1 := h.frame hf1 (fun _ _ _ e => e)
  go_wp2_with fail
  rw [← hW1]
  refine (rfind_any _ _ _ _ _ hr1 hM s).mono ?_
  rintro e w' ⟨rfl, (⟨k, hk, rfl, he, -⟩ | ⟨-, hg2⟩)⟩
  rotate_left
  · rw [hg2] at hg; cases hg
  obtain ⟨lv, av, hf⟩ := hr1
  obtain ⟨la, lc, rfl, hlc, hnone, hrow⟩ := hf.row
  obtain ⟨g, rfl, hgr, hgl, -⟩ := hrow.resolve_left (by omega)
  have c0 : W1.cell? ⟨r, 0, none⟩ = some (.slice (some ⟨g, 0, none⟩) M.length lc) := by rw [blk_cell hf.hb]; rfl
  have hsrc := (hf.sorted_src rfl g 0 rfl).2
  have hput := kput_found hs hk he (X := ⟨v, xe, ro, u⟩)
  have hp := hide (show ∀ w5 v5 n5, n5 = M.length → w5.ownsRow (w.heap.size + 1) 67 5 v5 n5 (lcells (M.set k (s.data.toList, ⟨v, xe, ro, u⟩))) → Fr (fun _ => False) W1 w5 → PutPost w r (kput s.data.toList ⟨v, xe, ro, u⟩ M) args S (.returned (.tuple #[])) (w5.setCell ⟨r, 0, none⟩ v5) from fun w5 v5 n5 h0 h1 h2 => by
    subst h0
    have := hf.newList (M' := M.set k (s.data.toList, ⟨v, xe, ro, u⟩)) h2 (by rw [hsz1]; simpa using h1)
    exact ⟨rfl, hput ▸ this.1, hf1.mono (fun _ _ e => e.elim) |>.trans this.2⟩)
  have Hsrc := hide hsrc
  have hkl : (k : Int) < (M.length : Int) := by omega
  clear hsrc hput hW1
  obtain ⟨n, hn⟩ : ∃ n, n = M.length := ⟨_, rfl⟩
  rw [← hn] at c0 hkl hlc
  have Hn := hide hn
  clear hn
  have c0b : (W1.alloc (.cells #[] 67)).cell? ⟨r, 0, none⟩ = some (.slice (some ⟨g, 0, none⟩) n lc) := by rw [World.cell?_of_block (Below.heap_alloc W1 _ _ (blk_lt hf.hb))]; exact c0
  have hown0 : (W1.alloc (.cells #[] 67)).ownsRow (w.heap.size + 1) 67 5 (.slice (some ⟨w.heap.size + 1, 0, none⟩) 0 0) 0 [] := by rw [← hsz1]; exact World.ownsRow_made W1 #[] 0 (Nat.le_refl _) (Nat.zero_le _) (by simp)
  go_wp2_with (at_builtin; refine wpList_append_src rfl _ _ 44 rfl (w.heap.size + 1) 67 i0 _ 5 40 Try.underlying44 hinf hz0 hz1 hz2 rfl (by decide) _ _ _ rfl hown0 (some ⟨g, 0, none⟩) n lc (lcells M) rfl ?qc1 ?qc2 lcells_one ?qc4 ?qc5 ?qc6 ?_)
  case qc1 => rw [lcells_len, Hn.out]
  case qc2 =>
    refine .inr ⟨_, rfl, fun j u hj => ?_⟩
    rw [Addr.add_lit, Nat.zero_add]
    exact (World.cell?_of_block (Below.heap_alloc W1 _ _ hgl)).trans (Hsrc.out j u hj)
  case qc4 => have := Hn.out; unfold maxLen; omega
  case qc5 => have := Hn.out; omega
  case qc6 => simp; omega
  intro v5 w5 hown hfr hat
  have hfr5 : Fr (fun _ => False) W1 w5 := ((Fr.refl _ _).alloc _).trans' hfr (fun i hi e => by simp [Value.ownBlock] at e; omega)
  have hsz5 := hfr5.size
  obtain ⟨g5, c5, rfl, hg5, hlt5⟩ := hown.form (by omega)
  have hb5 := hfr5.get hb1 (fun h => h)
  have hr5 := hfr5.get hf.hb (fun h => h)
  have x0 : w5.cell? ⟨w.heap.size, 0, none⟩ = some (.string s) := by rw [blk_cell hb5]; rfl
  have x1 : w5.cell? ⟨w.heap.size, 1, none⟩ = some (.string v) := by rw [blk_cell hb5]; rfl
  have x2 : w5.cell? ⟨w.heap.size, 2, none⟩ = some (.bool xe) := by rw [blk_cell hb5]; rfl
  have x3 : w5.cell? ⟨w.heap.size, 3, none⟩ = some (.bool ro) := by rw [blk_cell hb5]; rfl
  have x4 : w5.cell? ⟨w.heap.size, 4, none⟩ = some (.bool u) := by rw [blk_cell hb5]; rfl
  have fz : ∀ j, w5.frozen? ⟨g5, j, none⟩ = false := fun j => hown.frozenAt j
  have yy : ∀ j, j < 5 → w5.cell? ⟨g5, k * 5 + j, none⟩ = (vcells M[k])[j]? := fun j hj => by rw [hown.cellAt (k * 5 + j) (by omega), lcells_get M k hk j hj]
  have y0 : w5.cell? ⟨g5, k * 5, none⟩ = some (.string ⟨M[k].1.toArray⟩) := yy 0 (by omega)
  have y1 : w5.cell? ⟨g5, k * 5 + 1, none⟩ = some (.string M[k].2.value) := yy 1 (by omega)
  have y2 : w5.cell? ⟨g5, k * 5 + 2, none⟩ = some (.bool M[k].2.e) := yy 2 (by omega)
  have y3 : w5.cell? ⟨g5, k * 5 + 3, none⟩ = some (.bool M[k].2.r) := yy 3 (by omega)
  have y4 : w5.cell? ⟨g5, k * 5 + 4, none⟩ = some (.bool M[k].2.u) := yy 4 (by omega)
  have z5 := blk_frozen hr5
  have c05 : w5.cell? ⟨r, 0, none⟩ = some (.slice (some ⟨g, 0, none⟩) n lc) := by rw [blk_cell hr5]; rw [Hn.out]; rfl
  have hgr5 : ¬ g5 = r := by have := blk_lt hf.hb; omega
  have hrg5 : ¬ r = g5 := fun e => hgr5 e.symm
  have h6 := (((((hown.stored (k * 5) (.string s)).1.stored (k * 5 + 1) (.string v)).1.stored (k * 5 + 2) (.bool xe)).1.stored (k * 5 + 3) (.bool ro)).1.stored (k * 5 + 4) (.bool u)).1
  have hset := lcells_set s.data.toList ⟨v, xe, ro, u⟩ M k hk
  rw [ba_back] at hset
  simp only at hset
  rw [← hset] at h6
  have hsb : ∀ (W : World) j x, Fr (fun _ => False) W1 W → Fr (fun _ => False) W1 (W.setCell ⟨g5, j, none⟩ x) := fun W j x h => h.setCell (p := ⟨g5, j, none⟩) (.inr (by show W1.heap.size ≤ g5; omega)) x
  have hfin := hp.out _ _ _ Hn.out h6 (hsb _ _ _ (hsb _ _ _ (hsb _ _ _ (hsb _ _ _ (hsb _ _ _ hfr5)))))
  have hfin := hide hfin
  clear yy hown hr5 hb5 hfr hat h6 hset hsb
  go_wp2
  go_returns
  exact hfin.out
theorem cut_low {la : Option Addr} {n lc k : Nat} (hk : k ≤ n) (hn : n ≤ lc) (hnone : la = none → lc = 0) : ∃ sa sc, (∀ w', (Instr.sliceAt 44 (.slice la n lc) (some (.int .i64 k)) none none).run Try.prog w' = .ok (.slice sa (n - k) sc) w') ∧
    ((la = none ∧ sa = none ∧ sc = 0) ∨ ∃ x, la = some x ∧ (sa = some (x.add (k * 5)) ∨ (sa = some x ∧ n = k))) := by
  have hsz : ∀ w', (sizeOf 67).run Try.prog w' = .ok 5 w' := fun w' => by kernel_rfl
  have he : Try.prog.elem 44 = 67 := by kernel_rfl
  have ht : Try.prog.underlying 44 = some (.slice (Try.prog.elem 44)) := by rw [he]; exact Try.underlying44
  have key : ∀ w', (Instr.sliceAt 44 (.slice la n lc) (some (.int .i64 k)) none none).run Try.prog w' = .ok (sliced la k n lc 5) w' := fun w' => by
    rw [run_sliceAt_slice (h := ht), run_slice_l (ht := ht) (h0 := by omega) (h1 := by omega), he, hsz]
    simp
  by_cases hc : lc = k
  · refine ⟨la, lc - k, fun w' => by rw [key]; simp [sliced, hc], ?_⟩
    cases la with
    | none => exact .inl ⟨rfl, rfl, by have := hnone rfl; omega⟩
    | some x => exact .inr ⟨x, rfl, .inr ⟨rfl, by omega⟩⟩
  · refine ⟨la.map (·.add (k * 5)), lc - k, fun w' => by rw [key]; simp [sliced, hc], ?_⟩
    cases la with
    | none => exact .inl ⟨rfl, rfl, by have := hnone rfl; omega⟩
    | some x => exact .inr ⟨x, rfl, .inl rfl⟩
theorem cut_high {la : Option Addr} {n lc k : Nat} (hk : k ≤ n) (hn : n ≤ lc) : ∀ w', (Instr.sliceAt 44 (.slice la n lc) none (some (.int .i64 k)) none).run Try.prog w' = .ok (.slice la k lc) w' := by
  intro w'
  have hsz : ∀ w', (sizeOf 67).run Try.prog w' = .ok 5 w' := fun w' => by kernel_rfl
  have he : Try.prog.elem 44 = 67 := by kernel_rfl
  have ht : Try.prog.underlying 44 = some (.slice (Try.prog.elem 44)) := by rw [he]; exact Try.underlying44
  rw [run_sliceAt_slice (h := ht), run_slice_h (ht := ht) (h0 := by omega) (h2 := by omega), he, hsz]
  cases la <;> simp [sliced, Addr.add]
/-- What append may take from. -/
def SrcOk (w : World) (sa : Option Addr) (m c : Nat) (news : List Value) : Prop := (sa = none ∧ m = 0 ∧ c = 0) ∨ ∃ ad, sa = some ad ∧ ∀ j u, news[j]? = some u → w.cell? (ad.add j) = some u
theorem SrcOk.frame {w w' : World} {sa : Option Addr} {m c : Nat} {news : List Value} (h : SrcOk w sa m c news) (hf : Fr (fun _ => False) w w') : SrcOk w' sa m c news := by
  refine h.imp id ?_
  rintro ⟨ad, h1, h2⟩
  exact ⟨ad, h1, fun j u hj => (World.cell?_of_block (hf.block _ (World.block_lt_of_cell? _ _ (h2 j u hj)) (fun h => h))).trans (h2 j u hj)⟩
theorem RvF.srcHigh {w : World} {r : Nat} {M : KA VR} {args : List ByteArray} {S : Nat → Prop} {av : Value} {la : Option Addr} {lc k : Nat} (h : RvF w r M args S (.slice la M.length lc) av) (hk : k ≤ M.length) (hnone : la = none → lc = 0) (hlc : M.length ≤ lc) : SrcOk w la k lc (lcells (M.take k)) := by
  cases la with
  | none => have := hnone rfl; exact .inl ⟨rfl, by omega, by omega⟩
  | some x =>
    right
    refine ⟨x, rfl, fun j u hj => ?_⟩
    rcases h.hl.2 with ⟨h1, _⟩ | ⟨g, cap, cur, h1, _⟩
    · simp at h1
    · cases h1
      have hs := (h.sorted_src rfl g 0 rfl).2
      rw [lcells_take M k hk] at hj
      rw [Addr.add_lit, Nat.zero_add]
      rw [List.getElem?_take] at hj
      split at hj
      · exact hs j u hj
      · cases hj
theorem RvF.srcLow {w : World} {r : Nat} {M : KA VR} {args : List ByteArray} {S : Nat → Prop} {av : Value} {la : Option Addr} {lc k : Nat} (h : RvF w r M args S (.slice la M.length lc) av) (hk : k ≤ M.length) (hnone : la = none → lc = 0) (hlc : M.length ≤ lc) {sa : Option Addr} {sc : Nat}
    (hc : (la = none ∧ sa = none ∧ sc = 0) ∨ ∃ x, la = some x ∧ (sa = some (x.add (k * 5)) ∨ (sa = some x ∧ M.length = k))) : SrcOk w sa (M.length - k) sc (lcells (M.drop k)) := by
  rcases hc with ⟨h1, h2, h3⟩ | ⟨x, h1, h2⟩
  · have := hnone h1; exact .inl ⟨h2, by omega, h3⟩
  · subst h1
    right
    rcases h2 with h2 | ⟨h2, h3⟩
    · refine ⟨_, h2, fun j u hj => ?_⟩
      rcases h.hl.2 with ⟨h1, _⟩ | ⟨g, cap, cur, h1, _⟩
      · simp at h1
      · cases h1
        have hs := (h.sorted_src rfl g 0 rfl).2
        rw [lcells_drop M k hk, List.getElem?_drop] at hj
        rw [Addr.add_lit, Addr.add_lit, Nat.zero_add]
        exact hs _ u hj
    · refine ⟨_, h2, fun j u hj => ?_⟩
      rw [List.drop_of_length_le (by omega)] at hj
      simp [lcells] at hj
def LoopRel (w : World) (M : KA VR) (s : List UInt8) (gk : Nat) (i : Value) (wr : World) : Prop := ∃ k : Nat, gk + k = M.length ∧ i = .int .i64 k ∧ Fr (fun _ => False) w wr ∧ ∀ j (hj : j < M.length), j < k → bytesBefore M[j].1 s = true
set_option maxRecDepth 100000 in
set_option maxHeartbeats 8000000 in
theorem rput_new (w : World) (r : Nat) (M : KA VR) (args : List ByteArray) (S : Nat → Prop) (h : RvAt w r M args S) (hM : M.length ≤ 64) (s : ByteArray) (X : VR) (hg : kget s.data.toList M = none) :
    Calls Try.prog 36 #[.pointer (some ⟨r, 0, none⟩), .agg #[.string s, .string X.value, .bool X.e, .bool X.r, .bool X.u]] w (PutPost w r (kput s.data.toList X M) args S) := by
  obtain ⟨i0, hinf, hz0, hz1, hz2⟩ := info_parts Try.info67
  obtain ⟨v, xe, ro, u⟩ := X
  simp only
  go_enter Try.func36, Try.ntmps36
  obtain ⟨W1, hW1⟩ : ∃ W1, W1 = w.alloc (.cells #[.string s, .string v, .bool xe, .bool ro, .bool u] 67 (0, 0)) := ⟨_, rfl⟩
  have hf1 : Fr (fun _ => False) w W1 := by rw [hW1]; exact (Fr.refl _ _).alloc _
  have hb1 : W1.heap[w.heap.size]? = some (.cells #[.string s, .string v, .bool xe, .bool ro, .bool u] 67 (0, 0)) := by rw [hW1]; exact blk_new _ _
  have hsz1 : W1.heap.size = w.heap.size + 1 := by rw [hW1]; simp
  have hr1 := h.frame hf1 (fun _ _ _ e => e)
  go_wp2_with fail
  rw [← hW1]
  refine (rfind_any _ _ _ _ _ hr1 hM s).mono ?_
  rintro e w' ⟨rfl, (⟨k, hk, rfl, he, hg2⟩ | ⟨rfl, -⟩)⟩
  · rw [hg2] at hg; cases hg
  obtain ⟨lv, av, hf⟩ := hr1
  obtain ⟨la, lc, rfl, hlc, hnone, hrow⟩ := hf.row
  have c0 : W1.cell? ⟨r, 0, none⟩ = some (.slice la M.length lc) := by rw [blk_cell hf.hb]; rfl
  have hp := hide (show ∀ M' w5 v5 n5, kput s.data.toList ⟨v, xe, ro, u⟩ M = M' → n5 = M'.length → w5.ownsRow W1.heap.size 67 5 v5 n5 (lcells M') → Fr (fun _ => False) W1 w5 → PutPost w r (kput s.data.toList ⟨v, xe, ro, u⟩ M) args S (.returned (.tuple #[])) (w5.setCell ⟨r, 0, none⟩ v5) from fun M' w5 v5 n5 hk h0 h1 h2 => by
    subst h0
    subst hk
    have := hf.newList h2 h1
    exact ⟨rfl, this.1, hf1.mono (fun _ _ e => e.elim) |>.trans this.2⟩)
  have Key0 := hide (show ∀ w', Fr (fun _ => False) W1 w' → w'.cell? ⟨r, 0, none⟩ = some (.slice la M.length lc) from fun w' h => by rw [blk_cell (h.get hf.hb (fun h => h))]; rfl)
  have KeyX := hide (show ∀ w', Fr (fun _ => False) W1 w' → w'.cell? ⟨w.heap.size, 0, none⟩ = some (.string s) ∧ w'.cell? ⟨w.heap.size, 1, none⟩ = some (.string v) ∧ w'.cell? ⟨w.heap.size, 2, none⟩ = some (.bool xe) ∧ w'.cell? ⟨w.heap.size, 3, none⟩ = some (.bool ro) ∧ w'.cell? ⟨w.heap.size, 4, none⟩ = some (.bool u) from fun w' h => by
    have := h.get hb1 (fun h => h)
    refine ⟨?_, ?_, ?_, ?_, ?_⟩ <;> (rw [blk_cell this]; rfl))
  have Hrow := hide hrow
  have Hf := hide hf
  have Hf1 := hide hf1
  clear hrow hW1 hf hf1
  obtain ⟨n, hn⟩ : ∃ n, n = M.length := ⟨_, rfl⟩
  rw [← hn] at c0 hlc hM Key0
  have Hn := hide hn
  clear hn
  go_wp2_with fail
  go_loopg [6] n (fun gk i wr => LoopRel W1 M s.data.toList gk i wr)
  case atStart => exact ⟨0, by have := Hn.out; omega, rfl, Fr.refl _ _, fun j hj h0 => by omega⟩
  case round =>
    obtain ⟨k, hgk, rfl, hfr, hlo⟩ := hrel
    have Hlo := hide hlo
    have Hgk := hide hgk
    have c0r : wr.cell? ⟨r, 0, none⟩ = some (.slice la n lc) := by rw [World.cell?_of_block (hfr.block r (blk_lt Hf.out.hb) (fun h => h))]; exact c0
    have x0 : wr.cell? ⟨w.heap.size, 0, none⟩ = some (.string s) := by rw [blk_cell (hfr.get hb1 (fun h => h))]; rfl
    clear hlo hgk c0
    by_cases hlt : k < n
    · have hltM : k < M.length := by have := Hn.out; omega
      obtain ⟨g, rfl, hgr, hgl, hc⟩ := Hrow.out.resolve_left (by have := Hn.out; omega)
      obtain ⟨d0, -, -, -, -⟩ := hc k hltM
      replace d0 := (World.cell?_of_block (a := ⟨g, k * 5, none⟩) (hfr.block g hgl (fun h => h))).trans d0
      clear hc
      have hlti : (k : Int) < (n : Int) := by omega
      have hless := less_before M[k].1 s.data.toList
      cases hb : bytesBefore M[k].1 s.data.toList with
      | true =>
        rw [hb] at hless
        have hl2 : Op.bytesLess (⟨M[k].1.toArray⟩ : ByteArray).toList s.toList = true := by rw [ByteArray.toList_eq, ByteArray.toList_eq]; exact hless
        have hnext := hide (show LoopRel W1 M s.data.toList (gk - 1) (.int .i64 ((k : Int) + 1)) wr.drew from ⟨k + 1, by have := Hgk.out; have := Hn.out; omega, by go_num, hfr.drew, fun j hj hlt => by
          rcases Nat.lt_or_ge j k with h1 | h1
          · exact Hlo.out j hj h1
          · obtain rfl : j = k := by omega
            exact hb⟩)
        generalize (⟨M[k].1.toArray⟩ : ByteArray) = q at d0 hl2
        clear hless hb hltM
        go_wp2_with fail
        refine region_still (by kernel_rfl) (by kernel_rfl) ?_
        repeat go_big_quiet_step (fail)
        refine wpQuiet_nil ?_
        go_wp2
        go_roundg (gk - 1)
        case measure => have := Hgk.out; have := Hn.out; omega
        case rel => exact hnext.out
      | false =>
        rw [hb] at hless
        have hl2 : Op.bytesLess (⟨M[k].1.toArray⟩ : ByteArray).toList s.toList = false := by rw [ByteArray.toList_eq, ByteArray.toList_eq]; exact hless
        have hfrd := hfr.drew
        have Hst := hide (show ∀ hk : k < M.length, bytesBefore M[k].1 s.data.toList = false from fun _ => hb)
        generalize (⟨M[k].1.toArray⟩ : ByteArray) = q at d0 hl2
        go_wp2_with fail
        refine region_still (by kernel_rfl) (by kernel_rfl) ?_
        repeat go_big_quiet_step (fail)
        refine wpQuiet_nil ?_
        generalize wr.drew = wd at hfrd ⊢
        go_wp2_with fail
        have hX0 : Fr (fun _ => False) W1 wd.drew := hfrd.drew
        have hkn : k ≤ n := by have := Hgk.out; have := Hn.out; omega
        obtain ⟨sa, sc, hcl, hsc⟩ := cut_low (la := (some ⟨g, 0, none⟩)) hkn hlc hnone
        have Hcl := hide hcl
        have Hch := hide (cut_high (la := (some ⟨g, 0, none⟩)) hkn hlc)
        have SH := hide (Hf.out.srcHigh (k := k) (by have := Hn.out; omega) hnone (by have := Hn.out; omega))
        have SL := hide (Hf.out.srcLow (k := k) (by have := Hn.out; omega) hnone (by have := Hn.out; omega) (sa := sa) (sc := sc) (by rw [← Hn.out]; exact hsc))
        rw [← Hn.out] at SL
        clear hcl hsc
        refine region_tree (fun w' => Fr (fun _ => False) W1 w') [0, 2, 3, 4, 5, 6, 7, 9, 12, 13, 14, 15, 16, 17] 5 19 (by kernel_rfl) (by kernel_rfl) (fun _ _ d _ _ h => by cases d <;> exact h) hX0 ?_
        simp only [List.map_cons, List.map_nil, List.getD_cons_zero, List.getD_cons_succ, List.drop_succ_cons, List.drop_zero]
        go_big_quiet_step (fail)
        go_big_quiet_step (fail)
        refine wpQuiet_val (.pointer (some ⟨r, 0, none⟩)) rfl (fun w' _ => by go_simp) ?_
        simp only [Act.put, List.setIfInBounds_toArray, List.set_cons_succ, List.set_cons_zero]
        refine wpQuiet_val (.pointer (some ⟨r, 0, none⟩)) rfl (fun w' _ => by go_simp) ?_
        simp only [Act.put, List.setIfInBounds_toArray, List.set_cons_succ, List.set_cons_zero]
        refine wpQuiet_val (.slice (some ⟨g, 0, none⟩) n lc) rfl (fun w' hS => by (have e2 := Key0.out w' hS; go_simp)) ?_
        simp only [Act.put, List.setIfInBounds_toArray, List.set_cons_succ, List.set_cons_zero]
        go_big_quiet_step (fail)
        refine wpQuiet_val (.slice (some ⟨g, 0, none⟩) k lc) rfl (fun w' _ => by (have e2 := Hch.out w'; go_simp)) ?_
        simp only [Act.put, List.setIfInBounds_toArray, List.set_cons_succ, List.set_cons_zero]
        refine wpQuiet_val (.agg #[.string s, .string v, .bool xe, .bool ro, .bool u]) rfl (fun w' hS => by (obtain ⟨e0, e1, e2, e3, e4⟩ := KeyX.out w' hS; go_simp)) ?_
        simp only [Act.put, List.setIfInBounds_toArray, List.set_cons_succ, List.set_cons_zero]
        go_big_quiet_step (fail)
        refine wpQuiet_val (.pointer (some ⟨r, 0, none⟩)) rfl (fun w' _ => by go_simp) ?_
        simp only [Act.put, List.setIfInBounds_toArray, List.set_cons_succ, List.set_cons_zero]
        refine wpQuiet_val (.pointer (some ⟨r, 0, none⟩)) rfl (fun w' _ => by go_simp) ?_
        simp only [Act.put, List.setIfInBounds_toArray, List.set_cons_succ, List.set_cons_zero]
        refine wpQuiet_val (.slice (some ⟨g, 0, none⟩) n lc) rfl (fun w' hS => by (have e2 := Key0.out w' hS; go_simp)) ?_
        simp only [Act.put, List.setIfInBounds_toArray, List.set_cons_succ, List.set_cons_zero]
        go_big_quiet_step (fail)
        refine wpQuiet_val (.slice sa (n - k) sc) rfl (fun w' _ => by (have e2 := Hcl.out w'; go_simp)) ?_
        simp only [Act.put, List.setIfInBounds_toArray, List.set_cons_succ, List.set_cons_zero]
        refine wpQuiet_nil ?_
        generalize wd.drew = X0 at hX0 ⊢
        refine tree_two' 1 10 (by kernel_rfl) (by decide) (by decide) (by simp) (by simp) rfl rfl (fun K hK => ?_) (fun K hK => ?_)
        · simp only [List.getD_cons_zero, List.getD_cons_succ]
          go_wp2_with fail
          obtain ⟨X1, eX1⟩ : ∃ Y, Y = X0.alloc (.cells #[] 67 (0, 0)) := ⟨_, rfl⟩
          rw [← eX1]
          have hX1 : Fr (fun _ => False) W1 X1 := by rw [eX1]; exact hX0.alloc _
          have own50 : X1.ownsRow W1.heap.size 67 5 (.slice (some ⟨X0.heap.size, 0, none⟩) 0 0) 0 [] := by rw [eX1]; exact World.ownsRow_made X0 #[] 0 hX0.size (Nat.zero_le _) (by simp)
          have sX1 := hide (show X1.heap.size = X0.heap.size + 1 from by rw [eX1]; simp)
          have EX1 := hide eX1
          clear eX1
          refine hK _ _ hX1 ?_
          clear hK K
          refine tree_two' 8 10 (by kernel_rfl) (by decide) (by decide) (by simp) (by simp) rfl rfl (fun K hK => ?_) (fun K hK => ?_)
          · simp only [List.getD_cons_zero, List.getD_cons_succ]
            refine wp_append_src (.tmp 50) (.tmp 56) 44 rfl W1.heap.size 67 i0 _ 5 40 Try.underlying44 hinf hz0 hz1 hz2 rfl (by decide) (.slice (some ⟨X0.heap.size, 0, none⟩) 0 0) 0 [] rfl own50 (some ⟨g, 0, none⟩) k lc (lcells (M.take k)) rfl (by have := Hn.out; rw [lcells_len, List.length_take]; omega) (SH.out.frame hX1) ?q1 ?q2 ?q3 hX1.size ?_
            case q1 => first | exact lcells_one | (intro u hu; simp at hu; rcases hu with rfl | rfl | rfl | rfl | rfl <;> rfl)
            case q2 => unfold maxLen; omega
            case q3 => omega
            intro v57 X2 own57 frX2 atX2
            have hX2 : Fr (fun _ => False) W1 X2 := hX1.trans' frX2 (fun i hi e => by have := (own50.lt _ e).1; omega)
            have sX2 := frX2.size
            refine hK _ _ hX2 ?_
            clear hK K
            refine tree_one' 10 (by kernel_rfl) (by decide) (by simp) rfl (fun K hK => ?_)
            simp only [List.getD_cons_zero, List.getD_cons_succ]
            go_wp2_with fail
            obtain ⟨X3, eX3⟩ : ∃ Y, Y = X2.alloc (.cells #[.string s, .string v, .bool xe, .bool ro, .bool u] 67 (0, 0)) := ⟨_, rfl⟩
            rw [← eX3]
            have hX3 : Fr (fun _ => False) W1 X3 := by rw [eX3]; exact hX2.alloc _
            have b59 : X3.heap[X2.heap.size]? = some (.cells #[.string s, .string v, .bool xe, .bool ro, .bool u] 67 (0, 0)) := by rw [eX3]; exact blk_new _ _
            have sX3 := hide (show X3.heap.size = X2.heap.size + 1 from by rw [eX3]; simp)
            have EX3 := hide eX3
            clear eX3
            have own57' : X3.ownsRow W1.heap.size 67 5 v57 (0 + k) ([] ++ lcells (M.take k)) := by rw [EX3.out]; exact own57.alloc _
            refine hK _ _ hX3 ?_
            clear hK K
            refine tree_one' 11 (by kernel_rfl) (by decide) (by simp) rfl (fun K hK => ?_)
            simp only [List.getD_cons_zero, List.getD_cons_succ]
            have src59 : SrcOk X3 (some ⟨X2.heap.size, 0, none⟩) 1 1 [.string s, .string v, .bool xe, .bool ro, .bool u] := .inr ⟨_, rfl, fun j u hj => by rw [Addr.add_lit, Nat.zero_add, blk_cell b59]; simpa using hj⟩
            refine wp_append_src (.tmp 57) (.tmp 59) 44 rfl W1.heap.size 67 i0 _ 5 40 Try.underlying44 hinf hz0 hz1 hz2 rfl (by decide) v57 (0 + k) ([] ++ lcells (M.take k)) rfl own57' (some ⟨X2.heap.size, 0, none⟩) 1 1 [.string s, .string v, .bool xe, .bool ro, .bool u] rfl rfl src59 ?q1 ?q2 ?q3 hX3.size ?_
            case q1 => first | exact lcells_one | (intro u hu; simp at hu; rcases hu with rfl | rfl | rfl | rfl | rfl <;> rfl)
            case q2 => unfold maxLen; omega
            case q3 => omega
            intro v60 Z4 own60 frZ4 atZ4
            have hZ4 : Fr (fun _ => False) W1 Z4 := hX3.trans' frZ4 (fun i hi e => by have := (own57'.lt _ e).1; omega)
            have sZ4 := frZ4.size
            refine hK _ _ hZ4 ?_
            clear hK K
            refine tree_one' 18 (by kernel_rfl) (by decide) (by simp) rfl (fun K hK => ?_)
            simp only [List.getD_cons_zero, List.getD_cons_succ]
            refine wp_append_src (.tmp 60) (.tmp 66) 44 rfl W1.heap.size 67 i0 _ 5 40 Try.underlying44 hinf hz0 hz1 hz2 rfl (by decide) v60 (0 + k + 1) ([] ++ lcells (M.take k) ++ [.string s, .string v, .bool xe, .bool ro, .bool u]) rfl own60 sa (n - k) sc (lcells (M.drop k)) rfl (by have := Hn.out; rw [lcells_len, List.length_drop]; omega) (SL.out.frame hZ4) ?q1 ?q2 ?q3 hZ4.size ?_
            case q1 => first | exact lcells_one | (intro u hu; simp at hu; rcases hu with rfl | rfl | rfl | rfl | rfl <;> rfl)
            case q2 => unfold maxLen; omega
            case q3 => omega
            intro v67 Z5 own67 frZ5 atZ5
            have hZ5 : Fr (fun _ => False) W1 Z5 := hZ4.trans' frZ5 (fun i hi e => by have := (own60.lt _ e).1; omega)
            have sZ5 := frZ5.size
            refine hK _ _ hZ5 ?_
            clear hK K
            refine tree_end (by kernel_rfl) ?_
            obtain ⟨a67, c67, rfl⟩ := own_form own67
            have hfin := hide (hp.out _ _ _ (0 + k + 1 + (n - k)) (kput_new hg (by have := Hn.out; omega) Hlo.out Hst.out) (by have := Hn.out; simp only [List.length_append, List.length_cons, List.length_take, List.length_drop]; omega) (by simpa [lcells_append, lcells_cons, vcells, ba_back] using own67) hZ5)
            have hb9 := hZ5.get Hf.out.hb (fun h => h)
            have hfz := blk_frozen hb9
            have c9 : Z5.cell? ⟨r, 0, none⟩ = some (.slice (some ⟨g, 0, none⟩) n lc) := by rw [blk_cell hb9, Hn.out]; rfl
            simp only [List.drop_succ_cons, List.drop_zero]
            clear own67 hb9
            go_wp2
            go_returns
            exact hfin.out
          · simp only [List.getD_cons_zero, List.getD_cons_succ]
            go_wp2_with fail
            obtain ⟨X2, eX2⟩ : ∃ Y, Y = X1.alloc (.cells #[.string s, .string v, .bool xe, .bool ro, .bool u] 67 (0, 0)) := ⟨_, rfl⟩
            rw [← eX2]
            have hX2 : Fr (fun _ => False) W1 X2 := by rw [eX2]; exact hX1.alloc _
            have b59 : X2.heap[X1.heap.size]? = some (.cells #[.string s, .string v, .bool xe, .bool ro, .bool u] 67 (0, 0)) := by rw [eX2]; exact blk_new _ _
            have sX2 := hide (show X2.heap.size = X1.heap.size + 1 from by rw [eX2]; simp)
            have EX2 := hide eX2
            clear eX2
            have own50' : X2.ownsRow W1.heap.size 67 5 (.slice (some ⟨X0.heap.size, 0, none⟩) 0 0) 0 [] := by rw [EX2.out]; exact own50.alloc _
            refine hK _ _ hX2 ?_
            clear hK K
            refine tree_one' 8 (by kernel_rfl) (by decide) (by simp) rfl (fun K hK => ?_)
            simp only [List.getD_cons_zero, List.getD_cons_succ]
            refine wp_append_src (.tmp 50) (.tmp 56) 44 rfl W1.heap.size 67 i0 _ 5 40 Try.underlying44 hinf hz0 hz1 hz2 rfl (by decide) (.slice (some ⟨X0.heap.size, 0, none⟩) 0 0) 0 [] rfl own50' (some ⟨g, 0, none⟩) k lc (lcells (M.take k)) rfl (by have := Hn.out; rw [lcells_len, List.length_take]; omega) (SH.out.frame hX2) ?q1 ?q2 ?q3 hX2.size ?_
            case q1 => first | exact lcells_one | (intro u hu; simp at hu; rcases hu with rfl | rfl | rfl | rfl | rfl <;> rfl)
            case q2 => unfold maxLen; omega
            case q3 => omega
            intro v57 X3 own57 frX3 atX3
            have hX3 : Fr (fun _ => False) W1 X3 := hX2.trans' frX3 (fun i hi e => by have := (own50'.lt _ e).1; omega)
            have sX3 := frX3.size
            have b59 := frX3.get b59 (fun e => by have := sX1.out; simp [Value.ownBlock] at e; omega)
            refine hK _ _ hX3 ?_
            clear hK K
            refine tree_one' 11 (by kernel_rfl) (by decide) (by simp) rfl (fun K hK => ?_)
            simp only [List.getD_cons_zero, List.getD_cons_succ]
            have src59 : SrcOk X3 (some ⟨X1.heap.size, 0, none⟩) 1 1 [.string s, .string v, .bool xe, .bool ro, .bool u] := .inr ⟨_, rfl, fun j u hj => by rw [Addr.add_lit, Nat.zero_add, blk_cell b59]; simpa using hj⟩
            refine wp_append_src (.tmp 57) (.tmp 59) 44 rfl W1.heap.size 67 i0 _ 5 40 Try.underlying44 hinf hz0 hz1 hz2 rfl (by decide) v57 (0 + k) ([] ++ lcells (M.take k)) rfl own57 (some ⟨X1.heap.size, 0, none⟩) 1 1 [.string s, .string v, .bool xe, .bool ro, .bool u] rfl rfl src59 ?q1 ?q2 ?q3 hX3.size ?_
            case q1 => first | exact lcells_one | (intro u hu; simp at hu; rcases hu with rfl | rfl | rfl | rfl | rfl <;> rfl)
            case q2 => unfold maxLen; omega
            case q3 => omega
            intro v60 Z4 own60 frZ4 atZ4
            have hZ4 : Fr (fun _ => False) W1 Z4 := hX3.trans' frZ4 (fun i hi e => by have := (own57.lt _ e).1; omega)
            have sZ4 := frZ4.size
            refine hK _ _ hZ4 ?_
            clear hK K
            refine tree_one' 18 (by kernel_rfl) (by decide) (by simp) rfl (fun K hK => ?_)
            simp only [List.getD_cons_zero, List.getD_cons_succ]
            refine wp_append_src (.tmp 60) (.tmp 66) 44 rfl W1.heap.size 67 i0 _ 5 40 Try.underlying44 hinf hz0 hz1 hz2 rfl (by decide) v60 (0 + k + 1) ([] ++ lcells (M.take k) ++ [.string s, .string v, .bool xe, .bool ro, .bool u]) rfl own60 sa (n - k) sc (lcells (M.drop k)) rfl (by have := Hn.out; rw [lcells_len, List.length_drop]; omega) (SL.out.frame hZ4) ?q1 ?q2 ?q3 hZ4.size ?_
            case q1 => first | exact lcells_one | (intro u hu; simp at hu; rcases hu with rfl | rfl | rfl | rfl | rfl <;> rfl)
            case q2 => unfold maxLen; omega
            case q3 => omega
            intro v67 Z5 own67 frZ5 atZ5
            have hZ5 : Fr (fun _ => False) W1 Z5 := hZ4.trans' frZ5 (fun i hi e => by have := (own60.lt _ e).1; omega)
            have sZ5 := frZ5.size
            refine hK _ _ hZ5 ?_
            clear hK K
            refine tree_end (by kernel_rfl) ?_
            obtain ⟨a67, c67, rfl⟩ := own_form own67
            have hfin := hide (hp.out _ _ _ (0 + k + 1 + (n - k)) (kput_new hg (by have := Hn.out; omega) Hlo.out Hst.out) (by have := Hn.out; simp only [List.length_append, List.length_cons, List.length_take, List.length_drop]; omega) (by simpa [lcells_append, lcells_cons, vcells, ba_back] using own67) hZ5)
            have hb9 := hZ5.get Hf.out.hb (fun h => h)
            have hfz := blk_frozen hb9
            have c9 : Z5.cell? ⟨r, 0, none⟩ = some (.slice (some ⟨g, 0, none⟩) n lc) := by rw [blk_cell hb9, Hn.out]; rfl
            simp only [List.drop_succ_cons, List.drop_zero]
            clear own67 hb9
            go_wp2
            go_returns
            exact hfin.out
        · simp only [List.getD_cons_zero, List.getD_cons_succ]
          go_wp2_with fail
          obtain ⟨X1, eX1⟩ : ∃ Y, Y = X0.alloc (.cells #[.string s, .string v, .bool xe, .bool ro, .bool u] 67 (0, 0)) := ⟨_, rfl⟩
          rw [← eX1]
          have hX1 : Fr (fun _ => False) W1 X1 := by rw [eX1]; exact hX0.alloc _
          have b59 : X1.heap[X0.heap.size]? = some (.cells #[.string s, .string v, .bool xe, .bool ro, .bool u] 67 (0, 0)) := by rw [eX1]; exact blk_new _ _
          have sX1 := hide (show X1.heap.size = X0.heap.size + 1 from by rw [eX1]; simp)
          have EX1 := hide eX1
          clear eX1
          refine hK _ _ hX1 ?_
          clear hK K
          refine tree_one' 1 (by kernel_rfl) (by decide) (by simp) rfl (fun K hK => ?_)
          simp only [List.getD_cons_zero, List.getD_cons_succ]
          go_wp2_with fail
          obtain ⟨X2, eX2⟩ : ∃ Y, Y = X1.alloc (.cells #[] 67 (0, 0)) := ⟨_, rfl⟩
          rw [← eX2]
          have hX2 : Fr (fun _ => False) W1 X2 := by rw [eX2]; exact hX1.alloc _
          have own50 : X2.ownsRow W1.heap.size 67 5 (.slice (some ⟨X1.heap.size, 0, none⟩) 0 0) 0 [] := by rw [eX2]; exact World.ownsRow_made X1 #[] 0 hX1.size (Nat.zero_le _) (by simp)
          have sX2 := hide (show X2.heap.size = X1.heap.size + 1 from by rw [eX2]; simp)
          have EX2 := hide eX2
          clear eX2
          have b59 : X2.heap[X0.heap.size]? = some (.cells #[.string s, .string v, .bool xe, .bool ro, .bool u] 67 (0, 0)) := by rw [EX2.out]; exact blk_alloc b59 _
          refine hK _ _ hX2 ?_
          clear hK K
          refine tree_one' 8 (by kernel_rfl) (by decide) (by simp) rfl (fun K hK => ?_)
          simp only [List.getD_cons_zero, List.getD_cons_succ]
          refine wp_append_src (.tmp 50) (.tmp 56) 44 rfl W1.heap.size 67 i0 _ 5 40 Try.underlying44 hinf hz0 hz1 hz2 rfl (by decide) (.slice (some ⟨X1.heap.size, 0, none⟩) 0 0) 0 [] rfl own50 (some ⟨g, 0, none⟩) k lc (lcells (M.take k)) rfl (by have := Hn.out; rw [lcells_len, List.length_take]; omega) (SH.out.frame hX2) ?q1 ?q2 ?q3 hX2.size ?_
          case q1 => first | exact lcells_one | (intro u hu; simp at hu; rcases hu with rfl | rfl | rfl | rfl | rfl <;> rfl)
          case q2 => unfold maxLen; omega
          case q3 => omega
          intro v57 X3 own57 frX3 atX3
          have hX3 : Fr (fun _ => False) W1 X3 := hX2.trans' frX3 (fun i hi e => by have := (own50.lt _ e).1; omega)
          have sX3 := frX3.size
          have b59 := frX3.get b59 (fun e => by have := sX1.out; simp [Value.ownBlock] at e; omega)
          refine hK _ _ hX3 ?_
          clear hK K
          refine tree_one' 11 (by kernel_rfl) (by decide) (by simp) rfl (fun K hK => ?_)
          simp only [List.getD_cons_zero, List.getD_cons_succ]
          have src59 : SrcOk X3 (some ⟨X0.heap.size, 0, none⟩) 1 1 [.string s, .string v, .bool xe, .bool ro, .bool u] := .inr ⟨_, rfl, fun j u hj => by rw [Addr.add_lit, Nat.zero_add, blk_cell b59]; simpa using hj⟩
          refine wp_append_src (.tmp 57) (.tmp 59) 44 rfl W1.heap.size 67 i0 _ 5 40 Try.underlying44 hinf hz0 hz1 hz2 rfl (by decide) v57 (0 + k) ([] ++ lcells (M.take k)) rfl own57 (some ⟨X0.heap.size, 0, none⟩) 1 1 [.string s, .string v, .bool xe, .bool ro, .bool u] rfl rfl src59 ?q1 ?q2 ?q3 hX3.size ?_
          case q1 => first | exact lcells_one | (intro u hu; simp at hu; rcases hu with rfl | rfl | rfl | rfl | rfl <;> rfl)
          case q2 => unfold maxLen; omega
          case q3 => omega
          intro v60 Z4 own60 frZ4 atZ4
          have hZ4 : Fr (fun _ => False) W1 Z4 := hX3.trans' frZ4 (fun i hi e => by have := (own57.lt _ e).1; omega)
          have sZ4 := frZ4.size
          refine hK _ _ hZ4 ?_
          clear hK K
          refine tree_one' 18 (by kernel_rfl) (by decide) (by simp) rfl (fun K hK => ?_)
          simp only [List.getD_cons_zero, List.getD_cons_succ]
          refine wp_append_src (.tmp 60) (.tmp 66) 44 rfl W1.heap.size 67 i0 _ 5 40 Try.underlying44 hinf hz0 hz1 hz2 rfl (by decide) v60 (0 + k + 1) ([] ++ lcells (M.take k) ++ [.string s, .string v, .bool xe, .bool ro, .bool u]) rfl own60 sa (n - k) sc (lcells (M.drop k)) rfl (by have := Hn.out; rw [lcells_len, List.length_drop]; omega) (SL.out.frame hZ4) ?q1 ?q2 ?q3 hZ4.size ?_
          case q1 => first | exact lcells_one | (intro u hu; simp at hu; rcases hu with rfl | rfl | rfl | rfl | rfl <;> rfl)
          case q2 => unfold maxLen; omega
          case q3 => omega
          intro v67 Z5 own67 frZ5 atZ5
          have hZ5 : Fr (fun _ => False) W1 Z5 := hZ4.trans' frZ5 (fun i hi e => by have := (own60.lt _ e).1; omega)
          have sZ5 := frZ5.size
          refine hK _ _ hZ5 ?_
          clear hK K
          refine tree_end (by kernel_rfl) ?_
          obtain ⟨a67, c67, rfl⟩ := own_form own67
          have hfin := hide (hp.out _ _ _ (0 + k + 1 + (n - k)) (kput_new hg (by have := Hn.out; omega) Hlo.out Hst.out) (by have := Hn.out; simp only [List.length_append, List.length_cons, List.length_take, List.length_drop]; omega) (by simpa [lcells_append, lcells_cons, vcells, ba_back] using own67) hZ5)
          have hb9 := hZ5.get Hf.out.hb (fun h => h)
          have hfz := blk_frozen hb9
          have c9 : Z5.cell? ⟨r, 0, none⟩ = some (.slice (some ⟨g, 0, none⟩) n lc) := by rw [blk_cell hb9, Hn.out]; rfl
          simp only [List.drop_succ_cons, List.drop_zero]
          clear own67 hb9
          go_wp2
          go_returns
          exact hfin.out
    · have hlti : ¬ (k : Int) < (n : Int) := by omega
      have hfrd := hfr.drew
      have Hst := hide (show ∀ hk : k < M.length, bytesBefore M[k].1 s.data.toList = false from fun hk => by have := Hn.out; omega)
      go_wp2_with fail
      refine region_still (by kernel_rfl) (by kernel_rfl) ?_
      repeat go_big_quiet_step (fail)
      refine wpQuiet_nil ?_
      generalize wr.drew = wd at hfrd ⊢
      go_wp2_with fail
      have hX0 : Fr (fun _ => False) W1 wd.drew := hfrd.drew
      have hkn : k ≤ n := by have := Hgk.out; have := Hn.out; omega
      obtain ⟨sa, sc, hcl, hsc⟩ := cut_low (la := la) hkn hlc hnone
      have Hcl := hide hcl
      have Hch := hide (cut_high (la := la) hkn hlc)
      have SH := hide (Hf.out.srcHigh (k := k) (by have := Hn.out; omega) hnone (by have := Hn.out; omega))
      have SL := hide (Hf.out.srcLow (k := k) (by have := Hn.out; omega) hnone (by have := Hn.out; omega) (sa := sa) (sc := sc) (by rw [← Hn.out]; exact hsc))
      rw [← Hn.out] at SL
      clear hcl hsc
      refine region_tree (fun w' => Fr (fun _ => False) W1 w') [0, 2, 3, 4, 5, 6, 7, 9, 12, 13, 14, 15, 16, 17] 5 19 (by kernel_rfl) (by kernel_rfl) (fun _ _ d _ _ h => by cases d <;> exact h) hX0 ?_
      simp only [List.map_cons, List.map_nil, List.getD_cons_zero, List.getD_cons_succ, List.drop_succ_cons, List.drop_zero]
      go_big_quiet_step (fail)
      go_big_quiet_step (fail)
      refine wpQuiet_val (.pointer (some ⟨r, 0, none⟩)) rfl (fun w' _ => by go_simp) ?_
      simp only [Act.put, List.setIfInBounds_toArray, List.set_cons_succ, List.set_cons_zero]
      refine wpQuiet_val (.pointer (some ⟨r, 0, none⟩)) rfl (fun w' _ => by go_simp) ?_
      simp only [Act.put, List.setIfInBounds_toArray, List.set_cons_succ, List.set_cons_zero]
      refine wpQuiet_val (.slice la n lc) rfl (fun w' hS => by (have e2 := Key0.out w' hS; go_simp)) ?_
      simp only [Act.put, List.setIfInBounds_toArray, List.set_cons_succ, List.set_cons_zero]
      go_big_quiet_step (fail)
      refine wpQuiet_val (.slice la k lc) rfl (fun w' _ => by (have e2 := Hch.out w'; go_simp)) ?_
      simp only [Act.put, List.setIfInBounds_toArray, List.set_cons_succ, List.set_cons_zero]
      refine wpQuiet_val (.agg #[.string s, .string v, .bool xe, .bool ro, .bool u]) rfl (fun w' hS => by (obtain ⟨e0, e1, e2, e3, e4⟩ := KeyX.out w' hS; go_simp)) ?_
      simp only [Act.put, List.setIfInBounds_toArray, List.set_cons_succ, List.set_cons_zero]
      go_big_quiet_step (fail)
      refine wpQuiet_val (.pointer (some ⟨r, 0, none⟩)) rfl (fun w' _ => by go_simp) ?_
      simp only [Act.put, List.setIfInBounds_toArray, List.set_cons_succ, List.set_cons_zero]
      refine wpQuiet_val (.pointer (some ⟨r, 0, none⟩)) rfl (fun w' _ => by go_simp) ?_
      simp only [Act.put, List.setIfInBounds_toArray, List.set_cons_succ, List.set_cons_zero]
      refine wpQuiet_val (.slice la n lc) rfl (fun w' hS => by (have e2 := Key0.out w' hS; go_simp)) ?_
      simp only [Act.put, List.setIfInBounds_toArray, List.set_cons_succ, List.set_cons_zero]
      go_big_quiet_step (fail)
      refine wpQuiet_val (.slice sa (n - k) sc) rfl (fun w' _ => by (have e2 := Hcl.out w'; go_simp)) ?_
      simp only [Act.put, List.setIfInBounds_toArray, List.set_cons_succ, List.set_cons_zero]
      refine wpQuiet_nil ?_
      generalize wd.drew = X0 at hX0 ⊢
      refine tree_two' 1 10 (by kernel_rfl) (by decide) (by decide) (by simp) (by simp) rfl rfl (fun K hK => ?_) (fun K hK => ?_)
      · simp only [List.getD_cons_zero, List.getD_cons_succ]
        go_wp2_with fail
        obtain ⟨X1, eX1⟩ : ∃ Y, Y = X0.alloc (.cells #[] 67 (0, 0)) := ⟨_, rfl⟩
        rw [← eX1]
        have hX1 : Fr (fun _ => False) W1 X1 := by rw [eX1]; exact hX0.alloc _
        have own50 : X1.ownsRow W1.heap.size 67 5 (.slice (some ⟨X0.heap.size, 0, none⟩) 0 0) 0 [] := by rw [eX1]; exact World.ownsRow_made X0 #[] 0 hX0.size (Nat.zero_le _) (by simp)
        have sX1 := hide (show X1.heap.size = X0.heap.size + 1 from by rw [eX1]; simp)
        have EX1 := hide eX1
        clear eX1
        refine hK _ _ hX1 ?_
        clear hK K
        refine tree_two' 8 10 (by kernel_rfl) (by decide) (by decide) (by simp) (by simp) rfl rfl (fun K hK => ?_) (fun K hK => ?_)
        · simp only [List.getD_cons_zero, List.getD_cons_succ]
          refine wp_append_src (.tmp 50) (.tmp 56) 44 rfl W1.heap.size 67 i0 _ 5 40 Try.underlying44 hinf hz0 hz1 hz2 rfl (by decide) (.slice (some ⟨X0.heap.size, 0, none⟩) 0 0) 0 [] rfl own50 la k lc (lcells (M.take k)) rfl (by have := Hn.out; rw [lcells_len, List.length_take]; omega) (SH.out.frame hX1) ?q1 ?q2 ?q3 hX1.size ?_
          case q1 => first | exact lcells_one | (intro u hu; simp at hu; rcases hu with rfl | rfl | rfl | rfl | rfl <;> rfl)
          case q2 => unfold maxLen; omega
          case q3 => omega
          intro v57 X2 own57 frX2 atX2
          have hX2 : Fr (fun _ => False) W1 X2 := hX1.trans' frX2 (fun i hi e => by have := (own50.lt _ e).1; omega)
          have sX2 := frX2.size
          refine hK _ _ hX2 ?_
          clear hK K
          refine tree_one' 10 (by kernel_rfl) (by decide) (by simp) rfl (fun K hK => ?_)
          simp only [List.getD_cons_zero, List.getD_cons_succ]
          go_wp2_with fail
          obtain ⟨X3, eX3⟩ : ∃ Y, Y = X2.alloc (.cells #[.string s, .string v, .bool xe, .bool ro, .bool u] 67 (0, 0)) := ⟨_, rfl⟩
          rw [← eX3]
          have hX3 : Fr (fun _ => False) W1 X3 := by rw [eX3]; exact hX2.alloc _
          have b59 : X3.heap[X2.heap.size]? = some (.cells #[.string s, .string v, .bool xe, .bool ro, .bool u] 67 (0, 0)) := by rw [eX3]; exact blk_new _ _
          have sX3 := hide (show X3.heap.size = X2.heap.size + 1 from by rw [eX3]; simp)
          have EX3 := hide eX3
          clear eX3
          have own57' : X3.ownsRow W1.heap.size 67 5 v57 (0 + k) ([] ++ lcells (M.take k)) := by rw [EX3.out]; exact own57.alloc _
          refine hK _ _ hX3 ?_
          clear hK K
          refine tree_one' 11 (by kernel_rfl) (by decide) (by simp) rfl (fun K hK => ?_)
          simp only [List.getD_cons_zero, List.getD_cons_succ]
          have src59 : SrcOk X3 (some ⟨X2.heap.size, 0, none⟩) 1 1 [.string s, .string v, .bool xe, .bool ro, .bool u] := .inr ⟨_, rfl, fun j u hj => by rw [Addr.add_lit, Nat.zero_add, blk_cell b59]; simpa using hj⟩
          refine wp_append_src (.tmp 57) (.tmp 59) 44 rfl W1.heap.size 67 i0 _ 5 40 Try.underlying44 hinf hz0 hz1 hz2 rfl (by decide) v57 (0 + k) ([] ++ lcells (M.take k)) rfl own57' (some ⟨X2.heap.size, 0, none⟩) 1 1 [.string s, .string v, .bool xe, .bool ro, .bool u] rfl rfl src59 ?q1 ?q2 ?q3 hX3.size ?_
          case q1 => first | exact lcells_one | (intro u hu; simp at hu; rcases hu with rfl | rfl | rfl | rfl | rfl <;> rfl)
          case q2 => unfold maxLen; omega
          case q3 => omega
          intro v60 Z4 own60 frZ4 atZ4
          have hZ4 : Fr (fun _ => False) W1 Z4 := hX3.trans' frZ4 (fun i hi e => by have := (own57'.lt _ e).1; omega)
          have sZ4 := frZ4.size
          refine hK _ _ hZ4 ?_
          clear hK K
          refine tree_one' 18 (by kernel_rfl) (by decide) (by simp) rfl (fun K hK => ?_)
          simp only [List.getD_cons_zero, List.getD_cons_succ]
          refine wp_append_src (.tmp 60) (.tmp 66) 44 rfl W1.heap.size 67 i0 _ 5 40 Try.underlying44 hinf hz0 hz1 hz2 rfl (by decide) v60 (0 + k + 1) ([] ++ lcells (M.take k) ++ [.string s, .string v, .bool xe, .bool ro, .bool u]) rfl own60 sa (n - k) sc (lcells (M.drop k)) rfl (by have := Hn.out; rw [lcells_len, List.length_drop]; omega) (SL.out.frame hZ4) ?q1 ?q2 ?q3 hZ4.size ?_
          case q1 => first | exact lcells_one | (intro u hu; simp at hu; rcases hu with rfl | rfl | rfl | rfl | rfl <;> rfl)
          case q2 => unfold maxLen; omega
          case q3 => omega
          intro v67 Z5 own67 frZ5 atZ5
          have hZ5 : Fr (fun _ => False) W1 Z5 := hZ4.trans' frZ5 (fun i hi e => by have := (own60.lt _ e).1; omega)
          have sZ5 := frZ5.size
          refine hK _ _ hZ5 ?_
          clear hK K
          refine tree_end (by kernel_rfl) ?_
          obtain ⟨a67, c67, rfl⟩ := own_form own67
          have hfin := hide (hp.out _ _ _ (0 + k + 1 + (n - k)) (kput_new hg (by have := Hn.out; omega) Hlo.out Hst.out) (by have := Hn.out; simp only [List.length_append, List.length_cons, List.length_take, List.length_drop]; omega) (by simpa [lcells_append, lcells_cons, vcells, ba_back] using own67) hZ5)
          have hb9 := hZ5.get Hf.out.hb (fun h => h)
          have hfz := blk_frozen hb9
          have c9 : Z5.cell? ⟨r, 0, none⟩ = some (.slice la n lc) := by rw [blk_cell hb9, Hn.out]; rfl
          simp only [List.drop_succ_cons, List.drop_zero]
          clear own67 hb9
          go_wp2
          go_returns
          exact hfin.out
        · simp only [List.getD_cons_zero, List.getD_cons_succ]
          go_wp2_with fail
          obtain ⟨X2, eX2⟩ : ∃ Y, Y = X1.alloc (.cells #[.string s, .string v, .bool xe, .bool ro, .bool u] 67 (0, 0)) := ⟨_, rfl⟩
          rw [← eX2]
          have hX2 : Fr (fun _ => False) W1 X2 := by rw [eX2]; exact hX1.alloc _
          have b59 : X2.heap[X1.heap.size]? = some (.cells #[.string s, .string v, .bool xe, .bool ro, .bool u] 67 (0, 0)) := by rw [eX2]; exact blk_new _ _
          have sX2 := hide (show X2.heap.size = X1.heap.size + 1 from by rw [eX2]; simp)
          have EX2 := hide eX2
          clear eX2
          have own50' : X2.ownsRow W1.heap.size 67 5 (.slice (some ⟨X0.heap.size, 0, none⟩) 0 0) 0 [] := by rw [EX2.out]; exact own50.alloc _
          refine hK _ _ hX2 ?_
          clear hK K
          refine tree_one' 8 (by kernel_rfl) (by decide) (by simp) rfl (fun K hK => ?_)
          simp only [List.getD_cons_zero, List.getD_cons_succ]
          refine wp_append_src (.tmp 50) (.tmp 56) 44 rfl W1.heap.size 67 i0 _ 5 40 Try.underlying44 hinf hz0 hz1 hz2 rfl (by decide) (.slice (some ⟨X0.heap.size, 0, none⟩) 0 0) 0 [] rfl own50' la k lc (lcells (M.take k)) rfl (by have := Hn.out; rw [lcells_len, List.length_take]; omega) (SH.out.frame hX2) ?q1 ?q2 ?q3 hX2.size ?_
          case q1 => first | exact lcells_one | (intro u hu; simp at hu; rcases hu with rfl | rfl | rfl | rfl | rfl <;> rfl)
          case q2 => unfold maxLen; omega
          case q3 => omega
          intro v57 X3 own57 frX3 atX3
          have hX3 : Fr (fun _ => False) W1 X3 := hX2.trans' frX3 (fun i hi e => by have := (own50'.lt _ e).1; omega)
          have sX3 := frX3.size
          have b59 := frX3.get b59 (fun e => by have := sX1.out; simp [Value.ownBlock] at e; omega)
          refine hK _ _ hX3 ?_
          clear hK K
          refine tree_one' 11 (by kernel_rfl) (by decide) (by simp) rfl (fun K hK => ?_)
          simp only [List.getD_cons_zero, List.getD_cons_succ]
          have src59 : SrcOk X3 (some ⟨X1.heap.size, 0, none⟩) 1 1 [.string s, .string v, .bool xe, .bool ro, .bool u] := .inr ⟨_, rfl, fun j u hj => by rw [Addr.add_lit, Nat.zero_add, blk_cell b59]; simpa using hj⟩
          refine wp_append_src (.tmp 57) (.tmp 59) 44 rfl W1.heap.size 67 i0 _ 5 40 Try.underlying44 hinf hz0 hz1 hz2 rfl (by decide) v57 (0 + k) ([] ++ lcells (M.take k)) rfl own57 (some ⟨X1.heap.size, 0, none⟩) 1 1 [.string s, .string v, .bool xe, .bool ro, .bool u] rfl rfl src59 ?q1 ?q2 ?q3 hX3.size ?_
          case q1 => first | exact lcells_one | (intro u hu; simp at hu; rcases hu with rfl | rfl | rfl | rfl | rfl <;> rfl)
          case q2 => unfold maxLen; omega
          case q3 => omega
          intro v60 Z4 own60 frZ4 atZ4
          have hZ4 : Fr (fun _ => False) W1 Z4 := hX3.trans' frZ4 (fun i hi e => by have := (own57.lt _ e).1; omega)
          have sZ4 := frZ4.size
          refine hK _ _ hZ4 ?_
          clear hK K
          refine tree_one' 18 (by kernel_rfl) (by decide) (by simp) rfl (fun K hK => ?_)
          simp only [List.getD_cons_zero, List.getD_cons_succ]
          refine wp_append_src (.tmp 60) (.tmp 66) 44 rfl W1.heap.size 67 i0 _ 5 40 Try.underlying44 hinf hz0 hz1 hz2 rfl (by decide) v60 (0 + k + 1) ([] ++ lcells (M.take k) ++ [.string s, .string v, .bool xe, .bool ro, .bool u]) rfl own60 sa (n - k) sc (lcells (M.drop k)) rfl (by have := Hn.out; rw [lcells_len, List.length_drop]; omega) (SL.out.frame hZ4) ?q1 ?q2 ?q3 hZ4.size ?_
          case q1 => first | exact lcells_one | (intro u hu; simp at hu; rcases hu with rfl | rfl | rfl | rfl | rfl <;> rfl)
          case q2 => unfold maxLen; omega
          case q3 => omega
          intro v67 Z5 own67 frZ5 atZ5
          have hZ5 : Fr (fun _ => False) W1 Z5 := hZ4.trans' frZ5 (fun i hi e => by have := (own60.lt _ e).1; omega)
          have sZ5 := frZ5.size
          refine hK _ _ hZ5 ?_
          clear hK K
          refine tree_end (by kernel_rfl) ?_
          obtain ⟨a67, c67, rfl⟩ := own_form own67
          have hfin := hide (hp.out _ _ _ (0 + k + 1 + (n - k)) (kput_new hg (by have := Hn.out; omega) Hlo.out Hst.out) (by have := Hn.out; simp only [List.length_append, List.length_cons, List.length_take, List.length_drop]; omega) (by simpa [lcells_append, lcells_cons, vcells, ba_back] using own67) hZ5)
          have hb9 := hZ5.get Hf.out.hb (fun h => h)
          have hfz := blk_frozen hb9
          have c9 : Z5.cell? ⟨r, 0, none⟩ = some (.slice la n lc) := by rw [blk_cell hb9, Hn.out]; rfl
          simp only [List.drop_succ_cons, List.drop_zero]
          clear own67 hb9
          go_wp2
          go_returns
          exact hfin.out
      · simp only [List.getD_cons_zero, List.getD_cons_succ]
        go_wp2_with fail
        obtain ⟨X1, eX1⟩ : ∃ Y, Y = X0.alloc (.cells #[.string s, .string v, .bool xe, .bool ro, .bool u] 67 (0, 0)) := ⟨_, rfl⟩
        rw [← eX1]
        have hX1 : Fr (fun _ => False) W1 X1 := by rw [eX1]; exact hX0.alloc _
        have b59 : X1.heap[X0.heap.size]? = some (.cells #[.string s, .string v, .bool xe, .bool ro, .bool u] 67 (0, 0)) := by rw [eX1]; exact blk_new _ _
        have sX1 := hide (show X1.heap.size = X0.heap.size + 1 from by rw [eX1]; simp)
        have EX1 := hide eX1
        clear eX1
        refine hK _ _ hX1 ?_
        clear hK K
        refine tree_one' 1 (by kernel_rfl) (by decide) (by simp) rfl (fun K hK => ?_)
        simp only [List.getD_cons_zero, List.getD_cons_succ]
        go_wp2_with fail
        obtain ⟨X2, eX2⟩ : ∃ Y, Y = X1.alloc (.cells #[] 67 (0, 0)) := ⟨_, rfl⟩
        rw [← eX2]
        have hX2 : Fr (fun _ => False) W1 X2 := by rw [eX2]; exact hX1.alloc _
        have own50 : X2.ownsRow W1.heap.size 67 5 (.slice (some ⟨X1.heap.size, 0, none⟩) 0 0) 0 [] := by rw [eX2]; exact World.ownsRow_made X1 #[] 0 hX1.size (Nat.zero_le _) (by simp)
        have sX2 := hide (show X2.heap.size = X1.heap.size + 1 from by rw [eX2]; simp)
        have EX2 := hide eX2
        clear eX2
        have b59 : X2.heap[X0.heap.size]? = some (.cells #[.string s, .string v, .bool xe, .bool ro, .bool u] 67 (0, 0)) := by rw [EX2.out]; exact blk_alloc b59 _
        refine hK _ _ hX2 ?_
        clear hK K
        refine tree_one' 8 (by kernel_rfl) (by decide) (by simp) rfl (fun K hK => ?_)
        simp only [List.getD_cons_zero, List.getD_cons_succ]
        refine wp_append_src (.tmp 50) (.tmp 56) 44 rfl W1.heap.size 67 i0 _ 5 40 Try.underlying44 hinf hz0 hz1 hz2 rfl (by decide) (.slice (some ⟨X1.heap.size, 0, none⟩) 0 0) 0 [] rfl own50 la k lc (lcells (M.take k)) rfl (by have := Hn.out; rw [lcells_len, List.length_take]; omega) (SH.out.frame hX2) ?q1 ?q2 ?q3 hX2.size ?_
        case q1 => first | exact lcells_one | (intro u hu; simp at hu; rcases hu with rfl | rfl | rfl | rfl | rfl <;> rfl)
        case q2 => unfold maxLen; omega
        case q3 => omega
        intro v57 X3 own57 frX3 atX3
        have hX3 : Fr (fun _ => False) W1 X3 := hX2.trans' frX3 (fun i hi e => by have := (own50.lt _ e).1; omega)
        have sX3 := frX3.size
        have b59 := frX3.get b59 (fun e => by have := sX1.out; simp [Value.ownBlock] at e; omega)
        refine hK _ _ hX3 ?_
        clear hK K
        refine tree_one' 11 (by kernel_rfl) (by decide) (by simp) rfl (fun K hK => ?_)
        simp only [List.getD_cons_zero, List.getD_cons_succ]
        have src59 : SrcOk X3 (some ⟨X0.heap.size, 0, none⟩) 1 1 [.string s, .string v, .bool xe, .bool ro, .bool u] := .inr ⟨_, rfl, fun j u hj => by rw [Addr.add_lit, Nat.zero_add, blk_cell b59]; simpa using hj⟩
        refine wp_append_src (.tmp 57) (.tmp 59) 44 rfl W1.heap.size 67 i0 _ 5 40 Try.underlying44 hinf hz0 hz1 hz2 rfl (by decide) v57 (0 + k) ([] ++ lcells (M.take k)) rfl own57 (some ⟨X0.heap.size, 0, none⟩) 1 1 [.string s, .string v, .bool xe, .bool ro, .bool u] rfl rfl src59 ?q1 ?q2 ?q3 hX3.size ?_
        case q1 => first | exact lcells_one | (intro u hu; simp at hu; rcases hu with rfl | rfl | rfl | rfl | rfl <;> rfl)
        case q2 => unfold maxLen; omega
        case q3 => omega
        intro v60 Z4 own60 frZ4 atZ4
        have hZ4 : Fr (fun _ => False) W1 Z4 := hX3.trans' frZ4 (fun i hi e => by have := (own57.lt _ e).1; omega)
        have sZ4 := frZ4.size
        refine hK _ _ hZ4 ?_
        clear hK K
        refine tree_one' 18 (by kernel_rfl) (by decide) (by simp) rfl (fun K hK => ?_)
        simp only [List.getD_cons_zero, List.getD_cons_succ]
        refine wp_append_src (.tmp 60) (.tmp 66) 44 rfl W1.heap.size 67 i0 _ 5 40 Try.underlying44 hinf hz0 hz1 hz2 rfl (by decide) v60 (0 + k + 1) ([] ++ lcells (M.take k) ++ [.string s, .string v, .bool xe, .bool ro, .bool u]) rfl own60 sa (n - k) sc (lcells (M.drop k)) rfl (by have := Hn.out; rw [lcells_len, List.length_drop]; omega) (SL.out.frame hZ4) ?q1 ?q2 ?q3 hZ4.size ?_
        case q1 => first | exact lcells_one | (intro u hu; simp at hu; rcases hu with rfl | rfl | rfl | rfl | rfl <;> rfl)
        case q2 => unfold maxLen; omega
        case q3 => omega
        intro v67 Z5 own67 frZ5 atZ5
        have hZ5 : Fr (fun _ => False) W1 Z5 := hZ4.trans' frZ5 (fun i hi e => by have := (own60.lt _ e).1; omega)
        have sZ5 := frZ5.size
        refine hK _ _ hZ5 ?_
        clear hK K
        refine tree_end (by kernel_rfl) ?_
        obtain ⟨a67, c67, rfl⟩ := own_form own67
        have hfin := hide (hp.out _ _ _ (0 + k + 1 + (n - k)) (kput_new hg (by have := Hn.out; omega) Hlo.out Hst.out) (by have := Hn.out; simp only [List.length_append, List.length_cons, List.length_take, List.length_drop]; omega) (by simpa [lcells_append, lcells_cons, vcells, ba_back] using own67) hZ5)
        have hb9 := hZ5.get Hf.out.hb (fun h => h)
        have hfz := blk_frozen hb9
        have c9 : Z5.cell? ⟨r, 0, none⟩ = some (.slice la n lc) := by rw [blk_cell hb9, Hn.out]; rfl
        simp only [List.drop_succ_cons, List.drop_zero]
        clear own67 hb9
        go_wp2
        go_returns
        exact hfin.out
end Go.Proofs.Ytcojeojmodjmdaa
