/- files.FS.start. Conditions: the contract's own premises. -/
import Derived.Test.YtffekmjoenppaaaGreatDoorGTabX
namespace Go.Proofs.YtffekmjoenppaaaGreatDoor
open Go.RowKit

def StartPost (σ : FSt) (p : Nat → Nat) (dir : Int) (s : List UInt8) (w : World) (e : Ending) (w' : World) : Prop :=
  ∃ (atv pv : Value) (sl : Bool), e = .returned (.tuple #[.agg #[atv, pv, .bool sl], .int .i64 (startE σ dir s).1]) ∧ Fr (fun _ => False) w w' ∧
    ((startE σ dir s).1 = 0 → atv = .pointer (some ⟨p (startE σ dir s).2, 0, none⟩) ∧ sl = slashS s ∧ (σ.nd (startE σ dir s).2).isSome = true ∧ ∃ l, ArgsV w' (fun k => w.heap.size ≤ k) pv l ∧ l.map (·.data.toList) = piecesS s ∧ l.length ≤ 1000 ∧ ∀ x ∈ l, x.size ≤ 1000) ∧
    ((startE σ dir s).1 ≠ 0 → atv = .pointer none ∧ pv = .slice none 0 0 ∧ sl = false)
theorem startPost_err {σ : FSt} {p : Nat → Nat} {dir : Int} {s : List UInt8} {w w' : World} {E : Int} (h : (startE σ dir s).1 = E) (h0 : E ≠ 0) (hf : Fr (fun _ => False) w w') :
    StartPost σ p dir s w (.returned (.tuple #[.agg #[.pointer none, .slice none 0 0, .bool false], .int .i64 E])) w' :=
  ⟨_, _, _, by rw [h], hf, fun e => absurd (h ▸ e) h0, fun _ => ⟨rfl, rfl, rfl⟩⟩
theorem pieces_eq (s : ByteArray) : ((Lib.splitB slashBA 0 (Lib.countB s slashBA) s).filter fun x => !x.data.toList.isEmpty).map (·.data.toList) = piecesS s.data.toList := by
  unfold piecesS
  rw [← splitB_eq, List.filter_map]
  rfl
theorem pieces_small (s : ByteArray) (hs : s.size ≤ 256) : ((Lib.splitB slashBA 0 (Lib.countB s slashBA) s).length ≤ 257) ∧ ∀ x ∈ Lib.splitB slashBA 0 (Lib.countB s slashBA) s, x.size ≤ 256 := by
  have h := splitB_eq s
  constructor
  · have h1 := split_count s.data.toList
    rw [← h, List.length_map, ba_len] at h1
    omega
  · intro x hx
    have h1 := piece_len s.data.toList x.data.toList (by rw [← h]; exact List.mem_map_of_mem hx)
    rw [ba_len, ba_len] at h1
    omega
set_option maxRecDepth 100000 in
set_option maxHeartbeats 4000000 in
theorem start_any (w : World) (f : Nat) (σ : FSt) (S : Nat → Prop) (p : Nat → Nat) (h : FilesAt w f σ S p) (hml : Ml w) (dir : Int) (hd : -9223372036854775808 ≤ dir ∧ dir ≤ 9223372036854775807) (s : ByteArray) (hs : s.size ≤ 9223372036854775807) :
    Calls Tryz.prog 98 #[.pointer (some ⟨f, 0, none⟩), .int .i64 dir, .string s] w (StartPost σ p dir s.data.toList w) := by
  obtain ⟨w1, hw1⟩ : ∃ w1, w1 = w.alloc (.cells #[.pointer none, .slice none 0 0, .bool false] 190 (0, 0)) := ⟨_, rfl⟩
  have hf1 : Fr (fun _ => False) w w1 := by rw [hw1]; exact (Fr.refl _ _).alloc _
  have hA := h.frame hf1 (fun _ _ _ e => e)
  have hget := fget_any w1 f σ S p hA dir hd
  cases hn : σ.ndI dir with
  | none =>
    have hfin : ∀ w', Fr (fun _ => False) w w' → StartPost σ p dir s.data.toList w (.returned (.tuple #[.agg #[.pointer none, .slice none 0 0, .bool false], .int .i64 9])) w' := fun w' h' => startPost_err (by unfold startE; rw [hn]) (by decide) h'
    have hfin := hide hfin
    rw [show ptrI σ p dir = .pointer none by unfold ptrI; rw [hn]] at hget
    clear hn
    subst hw1
    go_enter Tryz.func98, Tryz.ntmps98
    go_wp2_with fail
    refine hget.mono ?_
    rintro e w' ⟨rfl, rfl⟩
    go_wp2_with fail
    go_returns
    exact hfin.out _ ((Fr.refl _ _).alloc _)
  | some n =>
    obtain ⟨i, rfl, hi⟩ : ∃ i : Nat, dir = i ∧ σ.nd i = some n := by
      unfold FSt.ndI at hn
      split at hn
      · exact ⟨dir.toNat, by omega, hn⟩
      · cases hn
    rw [show ptrI σ p (i : Int) = .pointer (some ⟨p i, 0, none⟩) by unfold ptrI; rw [hn]; simp] at hget
    obtain ⟨dvn, evn, pvn, hnd⟩ := hA.node hi
    have hdir := dir_any w1 p (p i) i n dvn evn pvn hnd
    have herr := hide (show ∀ (E : Int) w', (startE σ i s.data.toList).1 = E → E ≠ 0 → Fr (fun _ => False) w w' → StartPost σ p i s.data.toList w (.returned (.tuple #[.agg #[.pointer none, .slice none 0 0, .bool false], .int .i64 E])) w' from fun E w' h1 h2 h3 => startPost_err h1 h2 h3)
    have hst : startE σ i s.data.toList = if n.d = false then (9, 0) else if s.data.toList = [] then (2, 0) else if 256 < s.data.toList.length then (36, 0) else (0, if s.data.toList.head? = some slashB then 1 else i) := by
      unfold startE
      rw [hn]
      simp only [Int.toNat_natCast]
    cases hnd' : n.d with
    | false =>
      have hfin := hide (herr.out 9 _ (by rw [hst, if_pos hnd']) (by decide) hf1)
      rw [hnd'] at hdir
      clear hst hnd' hn hi herr
      subst hw1
      go_enter Tryz.func98, Tryz.ntmps98
      go_wp2_with fail
      refine hget.mono ?_
      rintro e w' ⟨rfl, rfl⟩
      go_wp2_with fail
      refine hdir.mono ?_
      rintro e w' ⟨rfl, rfl⟩
      go_wp2_with fail
      go_returns
      exact hfin.out
    | true =>
      rw [if_neg (by simp [hnd'])] at hst
      rw [hnd'] at hdir
      by_cases h0 : s.data.toList = []
      · have hfin := hide (herr.out 2 _ (by rw [hst, if_pos h0]) (by decide) hf1)
        have h1 := ba_empty h0
        clear hst hn hi herr h0
        subst hw1
        go_enter Tryz.func98, Tryz.ntmps98
        go_wp2_with fail
        refine hget.mono ?_
        rintro e w' ⟨rfl, rfl⟩
        go_wp2_with fail
        refine hdir.mono ?_
        rintro e w' ⟨rfl, rfl⟩
        go_wp2_with fail
        go_returns
        exact hfin.out
      rw [if_neg h0] at hst
      have hne := ba_nonempty h0
      by_cases h256 : (256 : Int) < (s.size : Int)
      · have hfin := hide (herr.out 36 _ (by rw [hst, if_pos (by rw [ba_len]; omega)]) (by decide) hf1)
        clear hst hn hi herr h0
        subst hw1
        go_enter Tryz.func98, Tryz.ntmps98
        go_wp2_with fail
        refine hget.mono ?_
        rintro e w' ⟨rfl, rfl⟩
        go_wp2_with fail
        refine hdir.mono ?_
        rintro e w' ⟨rfl, rfl⟩
        go_wp2_with fail
        go_returns
        exact hfin.out
      rw [if_neg (by rw [ba_len]; omega)] at hst
      have hpos : 0 < s.size := by
        rw [← ba_len]; exact List.length_pos_iff.2 h0
      have hposI : (0 : Int) < (s.size : Int) := by omega
      clear herr
      have hm1 := hml.frame hf1 (fun h => h)
      obtain ⟨dvF, evF, pvF, lvF, hF⟩ := id hA
      have hroot : w1.cell? ⟨f, 2, none⟩ = some (.pointer (some ⟨p 1, 0, none⟩)) := by rw [blk_cell hF.hb]; rfl
      have hlive := h.live
      have hhd : s.data.toList.head? = some s[0] := by
        rw [List.head?_eq_getElem?, List.getElem?_eq_getElem (by rw [ba_len]; exact hpos)]
        rfl
      rw [hhd] at hst
      clear hF
      by_cases hq : s[0] = slashB
      · rw [if_pos (by rw [hq])] at hst
        have hqb : ((s[0].toNat : Int) == 47) = true := by rw [hq]; rfl
        have HL : (σ.nd 1).isSome = true := by obtain ⟨n1, h1, _⟩ := hlive.root; rw [h1]; rfl
        subst hw1
        go_enter Tryz.func98, Tryz.ntmps98
        go_wp2_with fail
        refine hget.mono ?_
        rintro e w' ⟨rfl, rfl⟩
        go_wp2_with fail
        refine hdir.mono ?_
        rintro e w' ⟨rfl, rfl⟩
        clear hget hdir
        go_wp2_with fail
        refine (split_any s _ (by omega) hm1).mono ?_
        rintro e w2 ⟨rfl, hw2⟩
        have hf2 : Fr (fun _ => False) (w.alloc (.cells #[.pointer none, .slice none 0 0, .bool false] 190 (0, 0))) w2 := by rw [hw2]; exact (Fr.refl _ _).alloc _
        have hb2 : w2.heap[w.heap.size + 1]? = some (.cells ((Lib.splitB slashBA 0 (Lib.countB s slashBA) s).map Value.string).toArray 9 (0, 0)) := by rw [hw2]; exact blk_new' _ _ _ (by simp)
        have hb0 : w2.heap[w.heap.size]? = some (.cells #[.pointer none, .slice none 0 0, .bool false] 190 (0, 0)) := hf2.get (blk_new _ _) (fun h => h)
        have hps := pieces_small s (by omega)
        have hpe := pieces_eq s
        have Hw2 := hide hw2
        clear hw2
        generalize Lib.splitB slashBA 0 (Lib.countB s slashBA) s = l0 at *
        have hsz0 : (w.alloc (.cells #[.pointer none, .slice none 0 0, .bool false] 190 (0, 0))).heap.size = w.heap.size + 1 := by simp
        rw [hsz0]
        go_wp2_with fail
        refine (del_any w2 _ l0 hb2 (by omega)).mono ?_
        rintro e w3 ⟨c3, rfl, ha3, hf3⟩
        have hb3 := hf3.get hb0 (by omega)
        have hfin := hide (show ∀ W, Fr (fun k => k = w.heap.size) w3 W → StartPost σ p i s.data.toList w (.returned (.tuple #[.agg #[.pointer (some ⟨p 1, 0, none⟩), .slice (some ⟨w.heap.size + 1, 0, none⟩) (l0.filter fun x => !x.data.toList.isEmpty).length c3, .bool (slashS s.data.toList)], .int .i64 0])) W from fun W hW => by
          have hW9 : Fr (fun _ => False) w W := (((Fr.refl (fun _ => False) w).alloc _).trans hf2).trans' (hf3.mono (S' := fun k => w.heap.size ≤ k) (fun k _ e => by omega)) (fun i hi e => by omega) |>.trans' hW (fun i hi e => by omega)
          refine ⟨_, _, _, by rw [hst], hW9, fun _ => ⟨by rw [hst], rfl, by rw [hst]; exact HL, ⟨_, ?_, hpe, ?_, ?_⟩⟩, fun e => absurd (by rw [hst]) e⟩
          · exact (ha3.frame hW (fun k _ e e2 => by omega)).mono (fun k _ e => by omega)
          · have := List.length_filter_le (fun x : ByteArray => !x.data.toList.isEmpty) l0; omega
          · intro x hx; have := hps.2 x (List.mem_filter.1 hx).1; omega)
        generalize (l0.filter fun x => !x.data.toList.isEmpty) = r0 at *
        clear ha3 hf3 hb2 hb0 hf2 hps hpe hst
        go_wp2_with fail
        refine (suffix_any s _ hs).mono ?_
        rintro e w4 ⟨rfl, rfl⟩
        have z3 := blk_frozen hb3
        have c30 : w4.cell? ⟨w.heap.size, 0, none⟩ = some (.pointer none) := by rw [blk_cell hb3]; rfl
        have c31 : w4.cell? ⟨w.heap.size, 1, none⟩ = some (.slice none 0 0) := by rw [blk_cell hb3]; rfl
        have c32 : w4.cell? ⟨w.heap.size, 2, none⟩ = some (.bool false) := by rw [blk_cell hb3]; rfl
        have hb7 := blk_set hb3 0 (.pointer (some ⟨p 1, 0, none⟩))
        have hb8 := blk_set hb7 1 (.slice (some ⟨w.heap.size + 1, 0, none⟩) r0.length c3)
        have hb9 := blk_set hb8 2 (.bool (slashS s.data.toList))
        have hfin := hide (hfin.out _ (((frSet w4 w.heap.size 0 (.pointer (some ⟨p 1, 0, none⟩))).trans (frSet _ w.heap.size 1 (.slice (some ⟨w.heap.size + 1, 0, none⟩) r0.length c3))).trans (frSet _ w.heap.size 2 (.bool (slashS s.data.toList)))))
        go_wp2_with fail
        have c90 := blk_cell hb7 0
        have c91 := blk_cell hb8 1
        have c92 := blk_cell hb9 2
        simp only [List.setIfInBounds_toArray, List.set_cons_zero, List.set_cons_succ, List.getElem?_toArray, List.getElem?_cons_zero, List.getElem?_cons_succ] at c90 c91 c92
        refine bodyPost_ret (by simp [results, Tryz.results98, go_sem, c90, c91, c92]; try rfl) rfl ?_
        exact hfin.out
      · rw [if_neg (by simpa using hq)] at hst
        have hqb : ((s[0].toNat : Int) == 47) = false := by
          rw [beq_eq_false_iff_ne]
          intro e
          exact hq (UInt8.toNat_inj.1 (by show s[0].toNat = 47; omega))
        have HL : (σ.nd i).isSome = true := by rw [hi]; rfl
        subst hw1
        go_enter Tryz.func98, Tryz.ntmps98
        go_wp2_with fail
        refine hget.mono ?_
        rintro e w' ⟨rfl, rfl⟩
        go_wp2_with fail
        refine hdir.mono ?_
        rintro e w' ⟨rfl, rfl⟩
        clear hget hdir
        go_wp2_with fail
        refine (split_any s _ (by omega) hm1).mono ?_
        rintro e w2 ⟨rfl, hw2⟩
        have hf2 : Fr (fun _ => False) (w.alloc (.cells #[.pointer none, .slice none 0 0, .bool false] 190 (0, 0))) w2 := by rw [hw2]; exact (Fr.refl _ _).alloc _
        have hb2 : w2.heap[w.heap.size + 1]? = some (.cells ((Lib.splitB slashBA 0 (Lib.countB s slashBA) s).map Value.string).toArray 9 (0, 0)) := by rw [hw2]; exact blk_new' _ _ _ (by simp)
        have hb0 : w2.heap[w.heap.size]? = some (.cells #[.pointer none, .slice none 0 0, .bool false] 190 (0, 0)) := hf2.get (blk_new _ _) (fun h => h)
        have hps := pieces_small s (by omega)
        have hpe := pieces_eq s
        have Hw2 := hide hw2
        clear hw2
        generalize Lib.splitB slashBA 0 (Lib.countB s slashBA) s = l0 at *
        have hsz0 : (w.alloc (.cells #[.pointer none, .slice none 0 0, .bool false] 190 (0, 0))).heap.size = w.heap.size + 1 := by simp
        rw [hsz0]
        go_wp2_with fail
        refine (del_any w2 _ l0 hb2 (by omega)).mono ?_
        rintro e w3 ⟨c3, rfl, ha3, hf3⟩
        have hb3 := hf3.get hb0 (by omega)
        have hfin := hide (show ∀ W, Fr (fun k => k = w.heap.size) w3 W → StartPost σ p i s.data.toList w (.returned (.tuple #[.agg #[.pointer (some ⟨p i, 0, none⟩), .slice (some ⟨w.heap.size + 1, 0, none⟩) (l0.filter fun x => !x.data.toList.isEmpty).length c3, .bool (slashS s.data.toList)], .int .i64 0])) W from fun W hW => by
          have hW9 : Fr (fun _ => False) w W := (((Fr.refl (fun _ => False) w).alloc _).trans hf2).trans' (hf3.mono (S' := fun k => w.heap.size ≤ k) (fun k _ e => by omega)) (fun i hi e => by omega) |>.trans' hW (fun i hi e => by omega)
          refine ⟨_, _, _, by rw [hst], hW9, fun _ => ⟨by rw [hst], rfl, by rw [hst]; exact HL, ⟨_, ?_, hpe, ?_, ?_⟩⟩, fun e => absurd (by rw [hst]) e⟩
          · exact (ha3.frame hW (fun k _ e e2 => by omega)).mono (fun k _ e => by omega)
          · have := List.length_filter_le (fun x : ByteArray => !x.data.toList.isEmpty) l0; omega
          · intro x hx; have := hps.2 x (List.mem_filter.1 hx).1; omega)
        generalize (l0.filter fun x => !x.data.toList.isEmpty) = r0 at *
        clear ha3 hf3 hb2 hb0 hf2 hps hpe hst
        go_wp2_with fail
        refine (suffix_any s _ hs).mono ?_
        rintro e w4 ⟨rfl, rfl⟩
        have z3 := blk_frozen hb3
        have c30 : w4.cell? ⟨w.heap.size, 0, none⟩ = some (.pointer none) := by rw [blk_cell hb3]; rfl
        have c31 : w4.cell? ⟨w.heap.size, 1, none⟩ = some (.slice none 0 0) := by rw [blk_cell hb3]; rfl
        have c32 : w4.cell? ⟨w.heap.size, 2, none⟩ = some (.bool false) := by rw [blk_cell hb3]; rfl
        have hb7 := blk_set hb3 0 (.pointer (some ⟨p i, 0, none⟩))
        have hb8 := blk_set hb7 1 (.slice (some ⟨w.heap.size + 1, 0, none⟩) r0.length c3)
        have hb9 := blk_set hb8 2 (.bool (slashS s.data.toList))
        have hfin := hide (hfin.out _ (((frSet w4 w.heap.size 0 (.pointer (some ⟨p i, 0, none⟩))).trans (frSet _ w.heap.size 1 (.slice (some ⟨w.heap.size + 1, 0, none⟩) r0.length c3))).trans (frSet _ w.heap.size 2 (.bool (slashS s.data.toList)))))
        go_wp2_with fail
        have c90 := blk_cell hb7 0
        have c91 := blk_cell hb8 1
        have c92 := blk_cell hb9 2
        simp only [List.setIfInBounds_toArray, List.set_cons_zero, List.set_cons_succ, List.getElem?_toArray, List.getElem?_cons_zero, List.getElem?_cons_succ] at c90 c91 c92
        refine bodyPost_ret (by simp [results, Tryz.results98, go_sem, c90, c91, c92]; try rfl) rfl ?_
        exact hfin.out
end Go.Proofs.YtffekmjoenppaaaGreatDoor

/- files.FS.walk, Walk. Conditions: the contract's own premises. -/
namespace Go.Proofs.YtffekmjoenppaaaGreatDoor
open Go.RowKit

theorem FilesF.aside {w : World} {f : Nat} {σ : FSt} {S : Nat → Prop} {p : Nat → Nat} {dv ev pv : Nat → Value} {lv : Value} (h : FilesF w f σ S p dv ev pv lv) (o : Obj) : FilesF (w.alloc o) f σ (fun k => S k ∧ k ≠ w.heap.size) p dv ev pv lv := by
  have h' := h.frame ((Fr.refl (fun _ => False) _).alloc o) (fun _ _ _ e => e)
  have nl : ∀ i, (σ.nd i).isSome = true → ∃ n, NodeF w p (p i) i n (dv i) (ev i) (pv i) := fun i hi => by
    obtain ⟨n, hn⟩ := Option.isSome_iff_exists.1 hi
    exact ⟨n, h.nd i n hn⟩
  exact ⟨h'.hb, h'.hl, h'.nd, h.inj, h.injd, h.inje, ⟨h.own, by have := blk_lt h.hb; omega⟩, fun g e => ⟨h.ownl g e, by have := (h.hl.lt g e).2; omega⟩,
    fun i hi => ⟨h.ownn i hi, by obtain ⟨n, hn⟩ := nl i hi; have := blk_lt hn.hb; omega⟩, fun i g hi e => ⟨h.ownd i g hi e, by obtain ⟨n, hn⟩ := nl i hi; have := hn.data.lt e; omega⟩,
    fun i m hi e => ⟨h.owne i m hi e, by obtain ⟨n, hn⟩ := nl i hi; have := hn.map_lt e; omega⟩, fun k hk => ⟨h.up k (by simp at hk; omega), by simp at hk; omega⟩, h.live⟩
theorem FilesAt.aside {w : World} {f : Nat} {σ : FSt} {S : Nat → Prop} {p : Nat → Nat} (h : FilesAt w f σ S p) (o : Obj) : FilesAt (w.alloc o) f σ (fun k => S k ∧ k ≠ w.heap.size) p := by
  obtain ⟨_, _, _, _, h⟩ := h
  exact ⟨_, _, _, _, h.aside o⟩
def WalkPost (σ : FSt) (p : Nat → Nat) (dir : Int) (s : List UInt8) (w : World) (e : Ending) (w' : World) : Prop :=
  ∃ a, e = .returned (.tuple #[.pointer a, .int .i64 (walkE σ dir s).1]) ∧ Fr (fun _ => False) w w' ∧ ((walkE σ dir s).1 = 0 → a = some ⟨p (walkE σ dir s).2, 0, none⟩ ∧ (σ.nd (walkE σ dir s).2).isSome = true)
set_option maxRecDepth 100000 in
set_option maxHeartbeats 4000000 in
theorem fwalk_any (w : World) (f : Nat) (σ : FSt) (S : Nat → Prop) (p : Nat → Nat) (h : FilesAt w f σ S p) (hml : Ml w) (dir : Int) (hd : -9223372036854775808 ≤ dir ∧ dir ≤ 9223372036854775807) (s : ByteArray) (hs : s.size ≤ 9223372036854775807) :
    Calls Tryz.prog 75 #[.pointer (some ⟨f, 0, none⟩), .int .i64 dir, .string s] w (WalkPost σ p dir s.data.toList w) := by
  have hst := start_any w f σ S p h hml dir hd s hs
  have hdef : walkE σ dir s.data.toList = if (startE σ dir s.data.toList).1 ≠ 0 then startE σ dir s.data.toList
    else if (overS σ (piecesS s.data.toList) (startE σ dir s.data.toList).2).1 ≠ 0 then overS σ (piecesS s.data.toList) (startE σ dir s.data.toList).2
    else if slashS s.data.toList = true ∧ ((σ.nd (overS σ (piecesS s.data.toList) (startE σ dir s.data.toList).2).2).elim false (·.d)) = false then (20, 0)
    else overS σ (piecesS s.data.toList) (startE σ dir s.data.toList).2 := rfl
  have hfin := hide (show ∀ (E : Int) (A : Nat) a w', walkE σ dir s.data.toList = (E, A) → Fr (fun _ => False) w w' → (E = 0 → a = some ⟨p A, 0, none⟩ ∧ (σ.nd A).isSome = true) → WalkPost σ p dir s.data.toList w (.returned (.tuple #[.pointer a, .int .i64 E])) w' from fun E A a w' h1 h2 h3 => by
    unfold WalkPost
    rw [h1]
    exact ⟨a, rfl, h2, h3⟩)
  unfold StartPost at hst
  generalize startE σ dir s.data.toList = q at *
  obtain ⟨E, a0⟩ := q
  simp only at hst hdef
  have Hdef := hide hdef
  have hst := hide hst
  clear hdef
  go_enter Tryz.func75, Tryz.ntmps75
  go_wp2_with fail
  refine hst.out.mono ?_
  rintro e w1 ⟨atv, pv, sl, rfl, hf1, hok, hno⟩
  clear hst
  by_cases hE : E = 0
  · subst hE
    obtain ⟨rfl, rfl, ha0, l, hl, hlp, hl1, hl2⟩ := hok rfl
    obtain ⟨la, lc, rfl⟩ := hl.form
    clear hno hok
    have hdef2 : walkE σ dir s.data.toList = if (overS σ (piecesS s.data.toList) a0).1 ≠ 0 then overS σ (piecesS s.data.toList) a0
      else if slashS s.data.toList = true ∧ ((σ.nd (overS σ (piecesS s.data.toList) a0).2).elim false (·.d)) = false then (20, 0)
      else overS σ (piecesS s.data.toList) a0 := by rw [Hdef.out, if_neg (by simp)]
    have Hdef2 := hide hdef2
    clear hdef2 Hdef
    have h1 := h.frame hf1 (fun _ _ _ e => e)
    have h2 := h1.aside (.cells #[.pointer (some ⟨p a0, 0, none⟩), .slice la l.length lc, .bool (slashS s.data.toList)] 190 (0, 0))
    have hb2 := blk_new w1 (.cells #[.pointer (some ⟨p a0, 0, none⟩), .slice la l.length lc, .bool (slashS s.data.toList)] 190 (0, 0))
    have hl9 := (hl.mono (S' := fun k => k ≠ w1.heap.size) (fun k hk _ => Nat.ne_of_lt hk)).frame ((Fr.refl (fun _ => False) _).alloc (.cells #[.pointer (some ⟨p a0, 0, none⟩), .slice la l.length lc, .bool (slashS s.data.toList)] 190 (0, 0))) (fun _ _ _ e => e)
    have hov := over_any _ f σ _ p h2 w1.heap.size a0 l (.slice la l.length lc) (slashS s.data.toList) _ hl9 (fun e => e rfl) (fun e => e.2 rfl) hb2 ha0 l.length (Nat.le_refl _) hl1 hl2
    rw [List.take_of_length_le (by simp), hlp] at hov
    have hf2 : Fr (fun _ => False) w (w1.alloc (.cells #[.pointer (some ⟨p a0, 0, none⟩), .slice la l.length lc, .bool (slashS s.data.toList)] 190 (0, 0))) := hf1.alloc _
    have hsz : w.heap.size ≤ w1.heap.size := hf1.size
    have c1 : (w1.alloc (.cells #[.pointer (some ⟨p a0, 0, none⟩), .slice la l.length lc, .bool (slashS s.data.toList)] 190 (0, 0))).cell? ⟨w1.heap.size, 1, none⟩ = some (.slice la l.length lc) := by rw [blk_cell hb2]; rfl
    unfold OverPost at hov
    generalize overS σ (piecesS s.data.toList) a0 = q2 at *
    obtain ⟨E2, a2⟩ := q2
    simp only at hov Hdef2
    have Hov := hide hov
    clear hov hl hl9 hlp
    go_wp2_with fail
    refine Hov.out.mono ?_
    rintro e w3 ⟨rfl, ha3, hw3, hf3⟩
    have hfr3 : Fr (fun _ => False) w w3 := hf2.trans' hf3 (fun i hi e => by omega)
    have c0 : w3.cell? ⟨w1.heap.size, 0, none⟩ = some (.pointer (some ⟨p a2, 0, none⟩)) := by rw [blk_cell hw3]; rfl
    have c2 : w3.cell? ⟨w1.heap.size, 2, none⟩ = some (.bool (slashS s.data.toList)) := by rw [blk_cell hw3]; rfl
    by_cases hE2 : E2 = 0
    · subst hE2
      have hA3 := h.frame hfr3 (fun _ _ _ e => e)
      obtain ⟨n, hn⟩ := Option.isSome_iff_exists.1 ha3
      obtain ⟨dvn, evn, pvn, hnd⟩ := hA3.node hn
      have hdir := dir_any w3 p (p a2) a2 n dvn evn pvn hnd
      cases hs9 : slashS s.data.toList with
      | false =>
        have hres := hide (hfin.out 0 a2 (some ⟨p a2, 0, none⟩) w3 (by rw [Hdef2.out, if_neg (by simp), if_neg (by simp [hs9])]) hfr3 (fun _ => ⟨rfl, ha3⟩))
        rw [hs9] at c2
        clear hdir
        go_wp2_with fail
        go_returns
        exact hres.out
      | true =>
        cases hdn : n.d with
        | true =>
          have hres := hide (hfin.out 0 a2 (some ⟨p a2, 0, none⟩) w3 (by rw [Hdef2.out, if_neg (by simp), if_neg (by simp [hn, hdn])]) hfr3 (fun _ => ⟨rfl, ha3⟩))
          rw [hs9] at c2
          rw [hdn] at hdir
          go_wp2_with fail
          refine hdir.mono ?_
          rintro e w4 ⟨rfl, rfl⟩
          clear hdir
          go_wp2_with fail
          go_returns
          exact hres.out
        | false =>
          have hres := hide (hfin.out 20 0 (some ⟨p a2, 0, none⟩) w3 (by rw [Hdef2.out, if_neg (by simp), if_pos (by simp [hn, hdn, hs9])]) hfr3 (fun e => by cases e))
          rw [hs9] at c2
          rw [hdn] at hdir
          go_wp2_with fail
          refine hdir.mono ?_
          rintro e w4 ⟨rfl, rfl⟩
          clear hdir
          go_wp2_with fail
          go_returns
          exact hres.out
    · have hres := hide (hfin.out E2 a2 (some ⟨p a2, 0, none⟩) w3 (by rw [Hdef2.out, if_pos hE2]) hfr3 (fun e => absurd e hE2))
      clear Hdef2
      go_wp2_with fail
      go_returns
      exact hres.out
  · obtain ⟨rfl, rfl, rfl⟩ := hno hE
    have hres := hide (hfin.out E a0 none (w1.alloc (.cells #[.pointer none, .slice none 0 0, .bool false] 190 (0, 0))) (by rw [Hdef.out, if_pos hE]) (hf1.alloc _) (fun e => absurd e hE))
    clear Hdef hok hno
    go_wp2_with fail
    go_returns
    exact hres.out
end Go.Proofs.YtffekmjoenppaaaGreatDoor
