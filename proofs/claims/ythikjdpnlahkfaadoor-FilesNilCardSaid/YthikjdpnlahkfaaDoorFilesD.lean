/- files.FS.start. Conditions: the contract's own premises. -/
import Derived.Test.YthikjdpnlahkfaaDoorFilesC
namespace Go.Proofs.YthikjdpnlahkfaaDoor
open Go.RowKit

def StartPost (σ : FSt) (p : Nat → Nat) (dir : Int) (s : List UInt8) (w : World) (e : Ending) (w' : World) : Prop :=
  ∃ (atv pv : Value) (sl : Bool), e = .returned (.tuple #[.agg #[atv, pv, .bool sl], .int .i64 (startE σ dir s).1]) ∧ Fr (fun _ => False) w w' ∧
    ((startE σ dir s).1 = 0 → atv = .pointer (some ⟨p (startE σ dir s).2, 0, none⟩) ∧ sl = slashS s ∧ (σ.nd (startE σ dir s).2).isSome = true ∧ ∃ l, ArgsV w' (fun k => w.heap.size ≤ k) pv l ∧ l.map (·.data.toList) = piecesS s ∧ l.length ≤ 1000 ∧ ∀ x ∈ l, x.size ≤ 1000) ∧
    ((startE σ dir s).1 ≠ 0 → atv = .pointer none ∧ pv = .slice none 0 0 ∧ sl = false)
theorem startPost_err {σ : FSt} {p : Nat → Nat} {dir : Int} {s : List UInt8} {w w' : World} {E : Int} (h : (startE σ dir s).1 = E) (h0 : E ≠ 0) (hf : Fr (fun _ => False) w w') :
    StartPost σ p dir s w (.returned (.tuple #[.agg #[.pointer none, .slice none 0 0, .bool false], .int .i64 E])) w' :=
  ⟨_, _, _, by rw [h], hf, fun e => absurd (h ▸ e) h0, fun _ => ⟨rfl, rfl, rfl⟩⟩
theorem pieces_eq (s : ByteArray) : ((Lib.splitB slashBA 0 (Lib.countB s slashBA) s).filter fun x => !x.data.toList.isEmpty).map (·.data.toList) = piecesS s.data.toList := by
  unfold piecesS
  rw [← splitB_eq, List.filter_map]
  rfl
theorem pieces_small (s : ByteArray) (hs : s.size ≤ 256) : ((Lib.splitB slashBA 0 (Lib.countB s slashBA) s).length ≤ 257) ∧ ∀ x ∈ Lib.splitB slashBA 0 (Lib.countB s slashBA) s, x.size ≤ 256 := by
  have h := splitB_eq s
  constructor
  · have h1 := split_count s.data.toList
    rw [← h, List.length_map, ba_len] at h1
    omega
  · intro x hx
    have h1 := piece_len s.data.toList x.data.toList (by rw [← h]; exact List.mem_map_of_mem hx)
    rw [ba_len, ba_len] at h1
    omega
set_option maxRecDepth 100000 in
set_option maxHeartbeats 4000000 in
theorem start_any (w : World) (f : Nat) (σ : FSt) (S : Nat → Prop) (p : Nat → Nat) (h : FilesAt w f σ S p) (hml : Ml w) (dir : Int) (hd : -9223372036854775808 ≤ dir ∧ dir ≤ 9223372036854775807) (s : ByteArray) (hs : s.size ≤ 9223372036854775807) :
    Calls Tryd.prog 57 #[.pointer (some ⟨f, 0, none⟩), .int .i64 dir, .string s] w (StartPost σ p dir s.data.toList w) := by
  obtain ⟨w1, hw1⟩ : ∃ w1, w1 = w.alloc (.cells #[.pointer none, .slice none 0 0, .bool false] 106 (0, 0)) := ⟨_, rfl⟩
  have hf1 : Fr (fun _ => False) w w1 := by rw [hw1]; exact (Fr.refl _ _).alloc _
  have hA := h.frame hf1 (fun _ _ _ e => e)
  have hget := fget_any w1 f σ S p hA dir hd
  cases hn : σ.ndI dir with
  | none =>
    have hfin : ∀ w', Fr (fun _ => False) w w' → StartPost σ p dir s.data.toList w (.returned (.tuple #[.agg #[.pointer none, .slice none 0 0, .bool false], .int .i64 9])) w' := fun w' h' => startPost_err (by unfold startE; rw [hn]) (by decide) h'
    have hfin := hide hfin
    rw [show ptrI σ p dir = .pointer none by unfold ptrI; rw [hn]] at hget
    clear hn
    subst hw1
    go_enter Tryd.func57, Tryd.ntmps57
    go_wp2_with fail
    refine hget.mono ?_
    rintro e w' ⟨rfl, rfl⟩
    go_wp2_with fail
    go_returns
    exact hfin.out _ ((Fr.refl _ _).alloc _)
  | some n =>
    obtain ⟨i, rfl, hi⟩ : ∃ i : Nat, dir = i ∧ σ.nd i = some n := by
      unfold FSt.ndI at hn
      split at hn
      · exact ⟨dir.toNat, by omega, hn⟩
      · cases hn
    rw [show ptrI σ p (i : Int) = .pointer (some ⟨p i, 0, none⟩) by unfold ptrI; rw [hn]; simp] at hget
    obtain ⟨dvn, evn, pvn, hnd⟩ := hA.node hi
    have hdir := dir_any w1 p (p i) i n dvn evn pvn hnd
    have herr := hide (show ∀ (E : Int) w', (startE σ i s.data.toList).1 = E → E ≠ 0 → Fr (fun _ => False) w w' → StartPost σ p i s.data.toList w (.returned (.tuple #[.agg #[.pointer none, .slice none 0 0, .bool false], .int .i64 E])) w' from fun E w' h1 h2 h3 => startPost_err h1 h2 h3)
    have hst : startE σ i s.data.toList = if n.d = false then (9, 0) else if s.data.toList = [] then (2, 0) else if 256 < s.data.toList.length then (36, 0) else (0, if s.data.toList.head? = some slashB then 1 else i) := by
      unfold startE
      rw [hn]
      simp only [Int.toNat_natCast]
    cases hnd' : n.d with
    | false =>
      have hfin := hide (herr.out 9 _ (by rw [hst, if_pos hnd']) (by decide) hf1)
      rw [hnd'] at hdir
      clear hst hnd' hn hi herr
      subst hw1
      go_enter Tryd.func57, Tryd.ntmps57
      go_wp2_with fail
      refine hget.mono ?_
      rintro e w' ⟨rfl, rfl⟩
      go_wp2_with fail
      refine hdir.mono ?_
      rintro e w' ⟨rfl, rfl⟩
      go_wp2_with fail
      go_returns
      exact hfin.out
    | true =>
      rw [if_neg (by simp [hnd'])] at hst
      rw [hnd'] at hdir
      by_cases h0 : s.data.toList = []
      · have hfin := hide (herr.out 2 _ (by rw [hst, if_pos h0]) (by decide) hf1)
        have h1 := ba_empty h0
        clear hst hn hi herr h0
        subst hw1
        go_enter Tryd.func57, Tryd.ntmps57
        go_wp2_with fail
        refine hget.mono ?_
        rintro e w' ⟨rfl, rfl⟩
        go_wp2_with fail
        refine hdir.mono ?_
        rintro e w' ⟨rfl, rfl⟩
        go_wp2_with fail
        go_returns
        exact hfin.out
      rw [if_neg h0] at hst
      have hne := ba_nonempty h0
      by_cases h256 : (256 : Int) < (s.size : Int)
      · have hfin := hide (herr.out 36 _ (by rw [hst, if_pos (by rw [ba_len]; omega)]) (by decide) hf1)
        clear hst hn hi herr h0
        subst hw1
        go_enter Tryd.func57, Tryd.ntmps57
        go_wp2_with fail
        refine hget.mono ?_
        rintro e w' ⟨rfl, rfl⟩
        go_wp2_with fail
        refine hdir.mono ?_
        rintro e w' ⟨rfl, rfl⟩
        go_wp2_with fail
        go_returns
        exact hfin.out
      rw [if_neg (by rw [ba_len]; omega)] at hst
      have hpos : 0 < s.size := by
        rw [← ba_len]; exact List.length_pos_iff.2 h0
      have hposI : (0 : Int) < (s.size : Int) := by omega
      clear herr
      have hm1 := hml.frame hf1 (fun h => h)
      obtain ⟨dvF, evF, pvF, lvF, hF⟩ := id hA
      have hroot : w1.cell? ⟨f, 2, none⟩ = some (.pointer (some ⟨p 1, 0, none⟩)) := by rw [blk_cell hF.hb]; rfl
      have hlive := h.live
      have hhd : s.data.toList.head? = some s[0] := by
        rw [List.head?_eq_getElem?, List.getElem?_eq_getElem (by rw [ba_len]; exact hpos)]
        rfl
      rw [hhd] at hst
      clear hF
      by_cases hq : s[0] = slashB
      · rw [if_pos (by rw [hq])] at hst
        have hqb : ((s[0].toNat : Int) == 47) = true := by rw [hq]; rfl
        have HL : (σ.nd 1).isSome = true := by obtain ⟨n1, h1, _⟩ := hlive.root; rw [h1]; rfl
        subst hw1
        go_enter Tryd.func57, Tryd.ntmps57
        go_wp2_with fail
        refine hget.mono ?_
        rintro e w' ⟨rfl, rfl⟩
        go_wp2_with fail
        refine hdir.mono ?_
        rintro e w' ⟨rfl, rfl⟩
        clear hget hdir
        go_wp2_with fail
        refine (split_any s _ (by omega) hm1).mono ?_
        rintro e w2 ⟨rfl, hw2⟩
        have hf2 : Fr (fun _ => False) (w.alloc (.cells #[.pointer none, .slice none 0 0, .bool false] 106 (0, 0))) w2 := by rw [hw2]; exact (Fr.refl _ _).alloc _
        have hb2 : w2.heap[w.heap.size + 1]? = some (.cells ((Lib.splitB slashBA 0 (Lib.countB s slashBA) s).map Value.string).toArray 9 (0, 0)) := by rw [hw2]; exact blk_new' _ _ _ (by simp)
        have hb0 : w2.heap[w.heap.size]? = some (.cells #[.pointer none, .slice none 0 0, .bool false] 106 (0, 0)) := hf2.get (blk_new _ _) (fun h => h)
        have hps := pieces_small s (by omega)
        have hpe := pieces_eq s
        have Hw2 := hide hw2
        clear hw2
        generalize Lib.splitB slashBA 0 (Lib.countB s slashBA) s = l0 at *
        have hsz0 : (w.alloc (.cells #[.pointer none, .slice none 0 0, .bool false] 106 (0, 0))).heap.size = w.heap.size + 1 := by simp
        rw [hsz0]
        go_wp2_with fail
        refine (del_any w2 _ l0 hb2 (by omega)).mono ?_
        rintro e w3 ⟨c3, rfl, ha3, hf3⟩
        have hb3 := hf3.get hb0 (by omega)
        have hfin := hide (show ∀ W, Fr (fun k => k = w.heap.size) w3 W → StartPost σ p i s.data.toList w (.returned (.tuple #[.agg #[.pointer (some ⟨p 1, 0, none⟩), .slice (some ⟨w.heap.size + 1, 0, none⟩) (l0.filter fun x => !x.data.toList.isEmpty).length c3, .bool (slashS s.data.toList)], .int .i64 0])) W from fun W hW => by
          have hW9 : Fr (fun _ => False) w W := (((Fr.refl (fun _ => False) w).alloc _).trans hf2).trans' (hf3.mono (S' := fun k => w.heap.size ≤ k) (fun k _ e => by omega)) (fun i hi e => by omega) |>.trans' hW (fun i hi e => by omega)
          refine ⟨_, _, _, by rw [hst], hW9, fun _ => ⟨by rw [hst], rfl, by rw [hst]; exact HL, ⟨_, ?_, hpe, ?_, ?_⟩⟩, fun e => absurd (by rw [hst]) e⟩
          · exact (ha3.frame hW (fun k _ e e2 => by omega)).mono (fun k _ e => by omega)
          · have := List.length_filter_le (fun x : ByteArray => !x.data.toList.isEmpty) l0; omega
          · intro x hx; have := hps.2 x (List.mem_filter.1 hx).1; omega)
        generalize (l0.filter fun x => !x.data.toList.isEmpty) = r0 at *
        clear ha3 hf3 hb2 hb0 hf2 hps hpe hst
        go_wp2_with fail
        refine (suffix_any s _ hs).mono ?_
        rintro e w4 ⟨rfl, rfl⟩
        have z3 := blk_frozen hb3
        have c30 : w4.cell? ⟨w.heap.size, 0, none⟩ = some (.pointer none) := by rw [blk_cell hb3]; rfl
        have c31 : w4.cell? ⟨w.heap.size, 1, none⟩ = some (.slice none 0 0) := by rw [blk_cell hb3]; rfl
        have c32 : w4.cell? ⟨w.heap.size, 2, none⟩ = some (.bool false) := by rw [blk_cell hb3]; rfl
        have hb7 := blk_set hb3 0 (.pointer (some ⟨p 1, 0, none⟩))
        have hb8 := blk_set hb7 1 (.slice (some ⟨w.heap.size + 1, 0, none⟩) r0.length c3)
        have hb9 := blk_set hb8 2 (.bool (slashS s.data.toList))
        have hfin := hide (hfin.out _ (((frSet w4 w.heap.size 0 (.pointer (some ⟨p 1, 0, none⟩))).trans (frSet _ w.heap.size 1 (.slice (some ⟨w.heap.size + 1, 0, none⟩) r0.length c3))).trans (frSet _ w.heap.size 2 (.bool (slashS s.data.toList)))))
        go_wp2_with fail
        have c90 := blk_cell hb7 0
        have c91 := blk_cell hb8 1
        have c92 := blk_cell hb9 2
        simp only [List.setIfInBounds_toArray, List.set_cons_zero, List.set_cons_succ, List.getElem?_toArray, List.getElem?_cons_zero, List.getElem?_cons_succ] at c90 c91 c92
        refine bodyPost_ret (by simp [results, Tryd.results57, go_sem, c90, c91, c92]; try rfl) rfl ?_
        exact hfin.out
      · rw [if_neg (by simpa using hq)] at hst
        have hqb : ((s[0].toNat : Int) == 47) = false := by
          rw [beq_eq_false_iff_ne]
          intro e
          exact hq (UInt8.toNat_inj.1 (by show s[0].toNat = 47; omega))
        have HL : (σ.nd i).isSome = true := by rw [hi]; rfl
        subst hw1
        go_enter Tryd.func57, Tryd.ntmps57
        go_wp2_with fail
        refine hget.mono ?_
        rintro e w' ⟨rfl, rfl⟩
        go_wp2_with fail
        refine hdir.mono ?_
        rintro e w' ⟨rfl, rfl⟩
        clear hget hdir
        go_wp2_with fail
        refine (split_any s _ (by omega) hm1).mono ?_
        rintro e w2 ⟨rfl, hw2⟩
        have hf2 : Fr (fun _ => False) (w.alloc (.cells #[.pointer none, .slice none 0 0, .bool false] 106 (0, 0))) w2 := by rw [hw2]; exact (Fr.refl _ _).alloc _
        have hb2 : w2.heap[w.heap.size + 1]? = some (.cells ((Lib.splitB slashBA 0 (Lib.countB s slashBA) s).map Value.string).toArray 9 (0, 0)) := by rw [hw2]; exact blk_new' _ _ _ (by simp)
        have hb0 : w2.heap[w.heap.size]? = some (.cells #[.pointer none, .slice none 0 0, .bool false] 106 (0, 0)) := hf2.get (blk_new _ _) (fun h => h)
        have hps := pieces_small s (by omega)
        have hpe := pieces_eq s
        have Hw2 := hide hw2
        clear hw2
        generalize Lib.splitB slashBA 0 (Lib.countB s slashBA) s = l0 at *
        have hsz0 : (w.alloc (.cells #[.pointer none, .slice none 0 0, .bool false] 106 (0, 0))).heap.size = w.heap.size + 1 := by simp
        rw [hsz0]
        go_wp2_with fail
        refine (del_any w2 _ l0 hb2 (by omega)).mono ?_
        rintro e w3 ⟨c3, rfl, ha3, hf3⟩
        have hb3 := hf3.get hb0 (by omega)
        have hfin := hide (show ∀ W, Fr (fun k => k = w.heap.size) w3 W → StartPost σ p i s.data.toList w (.returned (.tuple #[.agg #[.pointer (some ⟨p i, 0, none⟩), .slice (some ⟨w.heap.size + 1, 0, none⟩) (l0.filter fun x => !x.data.toList.isEmpty).length c3, .bool (slashS s.data.toList)], .int .i64 0])) W from fun W hW => by
          have hW9 : Fr (fun _ => False) w W := (((Fr.refl (fun _ => False) w).alloc _).trans hf2).trans' (hf3.mono (S' := fun k => w.heap.size ≤ k) (fun k _ e => by omega)) (fun i hi e => by omega) |>.trans' hW (fun i hi e => by omega)
          refine ⟨_, _, _, by rw [hst], hW9, fun _ => ⟨by rw [hst], rfl, by rw [hst]; exact HL, ⟨_, ?_, hpe, ?_, ?_⟩⟩, fun e => absurd (by rw [hst]) e⟩
          · exact (ha3.frame hW (fun k _ e e2 => by omega)).mono (fun k _ e => by omega)
          · have := List.length_filter_le (fun x : ByteArray => !x.data.toList.isEmpty) l0; omega
          · intro x hx; have := hps.2 x (List.mem_filter.1 hx).1; omega)
        generalize (l0.filter fun x => !x.data.toList.isEmpty) = r0 at *
        clear ha3 hf3 hb2 hb0 hf2 hps hpe hst
        go_wp2_with fail
        refine (suffix_any s _ hs).mono ?_
        rintro e w4 ⟨rfl, rfl⟩
        have z3 := blk_frozen hb3
        have c30 : w4.cell? ⟨w.heap.size, 0, none⟩ = some (.pointer none) := by rw [blk_cell hb3]; rfl
        have c31 : w4.cell? ⟨w.heap.size, 1, none⟩ = some (.slice none 0 0) := by rw [blk_cell hb3]; rfl
        have c32 : w4.cell? ⟨w.heap.size, 2, none⟩ = some (.bool false) := by rw [blk_cell hb3]; rfl
        have hb7 := blk_set hb3 0 (.pointer (some ⟨p i, 0, none⟩))
        have hb8 := blk_set hb7 1 (.slice (some ⟨w.heap.size + 1, 0, none⟩) r0.length c3)
        have hb9 := blk_set hb8 2 (.bool (slashS s.data.toList))
        have hfin := hide (hfin.out _ (((frSet w4 w.heap.size 0 (.pointer (some ⟨p i, 0, none⟩))).trans (frSet _ w.heap.size 1 (.slice (some ⟨w.heap.size + 1, 0, none⟩) r0.length c3))).trans (frSet _ w.heap.size 2 (.bool (slashS s.data.toList)))))
        go_wp2_with fail
        have c90 := blk_cell hb7 0
        have c91 := blk_cell hb8 1
        have c92 := blk_cell hb9 2
        simp only [List.setIfInBounds_toArray, List.set_cons_zero, List.set_cons_succ, List.getElem?_toArray, List.getElem?_cons_zero, List.getElem?_cons_succ] at c90 c91 c92
        refine bodyPost_ret (by simp [results, Tryd.results57, go_sem, c90, c91, c92]; try rfl) rfl ?_
        exact hfin.out
end Go.Proofs.YthikjdpnlahkfaaDoor
