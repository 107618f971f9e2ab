/- What Paths answers at the patterns of the two statements, as plain data; how many paths are tried. No program in sight; no condition. -/
import Derived.Test.YtlhmmiolnbgloaaGreatDoorGlobP
import Derived.Test.YtlhmmiolnbgloaaGreatDoorFilesPathsL
import Derived.Test.YtlhmmiolnbgloaaGreatDoorFilesKeepB
import Derived.Test.YtlhmmiolnbgloaaGreatDoorGlobS
import Derived.Test.YtlhmmiolnbgloaaGreatDoorGlobS
import Derived.Test.YtlhmmiolnbgloaaGreatDoorFilesLink
import Derived.Test.YtlhmmiolnbgloaaGreatDoorFilesF
import Derived.Test.YtlhmmiolnbgloaaGreatDoorFilesAsk
import Derived.Test.YtlhmmiolnbgloaaGreatDoorFilesInvB
import Derived.Test.YtlhmmiolnbgloaaGreatDoorRegionQ
namespace Go.Proofs.YtlhmmiolnbgloaaGreatDoor
open Go.RowKit

/-- How many paths are tried. -/
noncomputable def triesP (σ : FSt) (dir : Nat) : Nat → List UInt8 → List Ch → Nat
  | 0, _, _ => 0
  | fuel + 1, far, p => if p = [] then 0 else
      ((namesP σ dir far (p.take (cutP p))).map fun n =>
        1 + if thereL σ dir (far ++ n ++ textL ((p.take (skipP p)).drop (cutP p))) = 0 then 0 else triesP σ dir fuel (far ++ n ++ textL ((p.take (skipP p)).drop (cutP p))) (p.drop (skipP p))).sum
theorem tries_nil (σ : FSt) (dir fuel : Nat) (far : List UInt8) : triesP σ dir fuel far [] = 0 := by
  cases fuel with
  | zero => rfl
  | succ f => rw [triesP, if_pos rfl]
theorem sum_ones {α : Type} {f : α → Nat} (h : ∀ x, f x = 1) : ∀ l : List α, (l.map f).sum = l.length
  | [] => rfl
  | x :: l => by rw [List.map_cons, List.sum_cons, h, sum_ones h l, List.length_cons]; omega
/-- A pattern of one piece. -/
theorem tries_one {σ : FSt} {dir fuel : Nat} {far : List UInt8} {p : List Ch} (hne : p ≠ []) (h : ∀ c ∈ p, c.b ≠ slashB) :
    triesP σ dir (fuel + 1) far p = (namesP σ dir far p).length := by
  rw [triesP, if_neg hne, cut_none h, skip_none h, List.take_length, List.drop_length]
  refine sum_ones (fun n => ?_) _
  rw [tries_nil]
  simp
theorem tries_first {σ : FSt} {dir fuel : Nat} {d : List UInt8} {p : List Ch} (h : ∀ c ∈ d, c ≠ slashB) (hp : ∀ c ∈ p, c.b ≠ slashB) :
    triesP σ dir (fuel + 1) [] (plainL (d ++ [slashB]) ++ p) = 1 + if thereL σ dir (d ++ [slashB]) = 0 then 0 else triesP σ dir fuel (d ++ [slashB]) p := by
  have e1 : (plainL (d ++ [slashB]) ++ p).take d.length = plainL d := by rw [plain_split, ← plain_len d, List.take_left]
  have e2 : ((plainL (d ++ [slashB]) ++ p).take (d.length + 1)).drop d.length = [⟨slashB, true⟩] := by
    rw [plain_split, ← plain_len d, List.drop_take, List.drop_left, Nat.add_sub_cancel_left]
    rfl
  have e3 : (plainL (d ++ [slashB]) ++ p).drop (d.length + 1) = p := by
    rw [plain_split, ← plain_len d, ← List.drop_drop, List.drop_left]
    rfl
  rw [triesP, if_neg (by simp [plainL]), cut_dir h, skip_dir h hp, e1, e2, e3]
  have e4 : namesP σ dir [] (plainL d) = [d] := by unfold namesP; rw [if_pos (wild_plain d), text_plain]
  rw [e4]
  simp [textL]
theorem names_wild_len {σ : FSt} {dir : Nat} {far : List UInt8} {p : List Ch} (hw : wildL p = true) : (namesP σ dir far p).length ≤ (listL σ (thereL σ dir far)).length := by
  unfold namesP
  rw [hw, if_neg (by decide)]
  split
  · exact Nat.zero_le _
  · exact Nat.le_trans (List.length_filter_le _ _) (Nat.le_of_eq (by rw [List.length_map]))
theorem list_len {σ : FSt} {k : Nat} (hc : Caps σ k) (i : Int) : (listL σ i).length ≤ k := by
  unfold listL
  cases hn : σ.ndI i with
  | none => exact Nat.zero_le _
  | some n =>
    obtain ⟨j, rfl, hj⟩ := ndI_some hn
    simp only
    split
    · unfold namesB; rw [List.length_map]; exact (hc j n hj).2.2
    · exact Nat.zero_le _
theorem list_nat {σ : FSt} {i : Nat} {n : Nd} (h : σ.nd i = some n) (hd : n.d = true) : (listL σ i).map (fun x => x.data.toList) = n.ents.map (·.1) := by
  have hI : σ.ndI (i : Nat) = some n := by
    unfold FSt.ndI
    rw [if_pos (by have := nd_pos h; omega), Int.toNat_natCast]
    exact h
  unfold listL
  rw [hI]
  simp only [hd, if_true]
  unfold namesB
  rw [List.map_map]
  refine List.map_congr_left fun q _ => ?_
  simp
theorem start_in {σ : FSt} {i : Nat} {n : Nd} (h : σ.nd i = some n) (hd : n.d = true) {s : List UInt8} (h0 : s ≠ []) (hl : s.length ≤ 256) (hs : s.head? ≠ some slashB) : startE σ i s = (0, i) := by
  unfold startE
  rw [ndI_nat h]
  simp only [hd, Bool.true_eq_false, if_false]
  rw [if_neg h0, if_neg (by omega), if_neg hs, Int.toNat_natCast]
theorem noSl_head {s : List UInt8} (h : NoSl s) : s.head? ≠ some slashB := by
  cases s with
  | nil => simp
  | cons c r =>
    intro e
    have : c = slashB := by simpa using e
    exact h c (by simp) this
/-- One name from a directory. -/
theorem walk_one {σ : FSt} {i : Nat} {n : Nd} (h : σ.nd i = some n) (hd : n.d = true) {x : List UInt8} (h0 : x ≠ []) (hl : x.length ≤ 256) (hs : NoSl x) : walkE σ i x = stepS σ i x := by
  have hst := start_in h hd h0 hl (noSl_head hs)
  unfold walkE
  rw [hst, if_neg (fun e => e rfl), piecesS_noSl hs h0, slashS_noSl hs]
  have e1 : overS σ [x] i = stepS σ i x := by
    unfold overS
    by_cases e : (stepS σ i x).1 = 0
    · rw [if_neg (by simp [e])]
      show (0, (stepS σ i x).2) = stepS σ i x
      rw [← e]
    · rw [if_pos e]
  simp only [e1]
  by_cases e : (stepS σ i x).1 = 0
  · rw [if_neg (by simp [e]), if_neg (by simp)]
  · rw [if_pos e]
/-- One name behind a directory's name and a slash. -/
theorem walk_two {σ : FSt} {r : Nd} (h : σ.nd 1 = some r) (hd : r.d = true) {d x : List UInt8} (hd0 : d ≠ []) (hds : NoSl d) (h0 : x ≠ []) (hl : (d ++ [slashB] ++ x).length ≤ 256) (hs : NoSl x) {i : Nat} (hi : stepS σ 1 d = (0, i)) :
    walkE σ 1 (d ++ [slashB] ++ x) = stepS σ i x := by
  have hh : (d ++ [slashB] ++ x).head? ≠ some slashB := by
    rw [List.append_assoc, head_app hd0]
    exact noSl_head hds
  have hst := start_in h hd (s := d ++ [slashB] ++ x) (by simp) hl hh
  have hp : piecesS (d ++ [slashB] ++ x) = [d, x] := by
    rw [List.append_assoc, List.singleton_append, piecesS_append, piecesS_noSl hds hd0, piecesS_noSl hs h0]
    rfl
  have e1 : overS σ [d, x] 1 = stepS σ i x := by
    show (if (stepS σ 1 d).1 ≠ 0 then stepS σ 1 d else overS σ [x] (stepS σ 1 d).2) = _
    rw [hi, if_neg (fun e => e rfl)]
    show (if (stepS σ i x).1 ≠ 0 then stepS σ i x else overS σ [] (stepS σ i x).2) = _
    by_cases e : (stepS σ i x).1 = 0
    · rw [if_neg (by simp [e])]
      show (0, (stepS σ i x).2) = stepS σ i x
      rw [← e]
    · rw [if_pos e]
  have hsl : slashS (d ++ [slashB] ++ x) = false := by rw [slash_app h0]; exact slashS_noSl hs
  unfold walkE
  rw [show startE σ 1 (d ++ [slashB] ++ x) = (0, 1) from hst, if_neg (fun e => e rfl), hp, hsl]
  simp only [e1]
  by_cases e : (stepS σ i x).1 = 0
  · rw [if_neg (by simp [e]), if_neg (by simp)]
  · rw [if_pos e]
/-- A directory's name and a slash. -/
theorem walk_dir {σ : FSt} {r n : Nd} (h : σ.nd 1 = some r) (hd : r.d = true) {d : List UInt8} (hd0 : d ≠ []) (hds : NoSl d) (hl : (d ++ [slashB]).length ≤ 256) {i : Nat} (hi : stepS σ 1 d = (0, i)) (hn : σ.nd i = some n) (hnd : n.d = true) :
    walkE σ 1 (d ++ [slashB]) = (0, i) := by
  have hh : (d ++ [slashB]).head? ≠ some slashB := by
    rw [head_app hd0]
    exact noSl_head hds
  have hst := start_in h hd (s := d ++ [slashB]) (by simp) hl hh
  have hp : piecesS (d ++ [slashB]) = [d] := by
    have := piecesS_append d []
    rw [piecesS_noSl hds hd0] at this
    exact this
  have e1 : overS σ [d] 1 = (0, i) := by
    show (if (stepS σ 1 d).1 ≠ 0 then stepS σ 1 d else overS σ [] (stepS σ 1 d).2) = _
    rw [hi, if_neg (fun e => e rfl)]
    rfl
  unfold walkE
  rw [show startE σ 1 (d ++ [slashB]) = (0, 1) from hst, if_neg (fun e => e rfl), hp]
  simp only [e1]
  rw [if_neg (fun e => e rfl), hn]
  simp [hnd]
theorem compact_ne : ∀ {l : List (List UInt8)}, l.Pairwise (· ≠ ·) → compactL l = l
  | [], _ => rfl
  | [x], _ => rfl
  | x :: y :: r, h => by
    have h1 : x ≠ y := (List.pairwise_cons.1 h).1 y (by simp)
    have h2 := compact_ne (List.pairwise_cons.1 h).2
    unfold compactL
    rw [if_neg h1, h2]
theorem sorted_ne {α : Type} {L : KA α} (h : KSorted L) : (L.map (·.1)).Pairwise (· ≠ ·) := by
  rw [List.pairwise_map]
  refine h.imp fun h1 e => ?_
  have h2 := before_lt h1
  rw [e] at h2
  exact List.lt_irrefl _ h2
theorem flat_single {α : Type} : ∀ l : List α, l.flatMap (fun x => [x]) = l
  | [] => rfl
  | x :: l => by rw [List.flatMap_cons, flat_single l]; rfl
/-- What a laid tree keeps. -/
structure LaidS (σ : FSt) (k : Nat) : Prop where
  good : Good σ k
  names : AllN NamesN σ
  root : ∃ r, σ.nd 1 = some r ∧ r.d = true ∧ r.mode = 493
theorem list_root {σ : FSt} {k : Nat} (h : LaidS σ k) : listE σ 1 = 0 := by
  obtain ⟨r, h1, h2, _⟩ := h.root
  unfold listE
  rw [show σ.ndI 1 = some r from h1]
  simp [h2]
/-- A quoted text with a star behind gives the names that begin with it. -/
theorem glob_names {σ : FSt} {k : Nat} (h : LaidS σ k) (hk : k ≤ 200) {t : List UInt8} (ht : NoSl t) :
    globL σ 1 (plainL t ++ [un starB]) = ((listL σ 1).map fun x => x.data.toList).filter (fun n => t.isPrefixOf n && !(n.head? == some 46 && t.isEmpty)) ∧ triesP σ 1 ((plainL t ++ [un starB]).length + 1) [] (plainL t ++ [un starB]) ≤ 200 := by
  obtain ⟨r, h1, h2, h3⟩ := h.root
  have hne : plainL t ++ [un starB] ≠ [] := by simp
  have hns : ∀ c ∈ plainL t ++ [un starB], c.b ≠ slashB := by
    intro c hc
    rcases List.mem_append.1 hc with hc | hc
    · obtain ⟨x, hx, rfl⟩ := List.mem_map.1 hc
      exact ht x hx
    · have : c = un starB := by simpa using hc
      subst this
      decide
  have hth : thereL σ 1 [] = 1 := if_pos rfl
  have hmay : mayR σ (1 : Nat) 5 = true := by
    unfold mayR
    rw [show σ.ndI (1 : Nat) = some r from h1]
    simp only
    rw [if_pos ⟨by decide, by decide⟩, h3]
    decide
  have hL := list_nat h1 h2
  have hlen : (plainL t ++ [un starB]).length = t.length + 1 := by rw [List.length_append, plain_len]; rfl
  refine ⟨?_, ?_⟩
  · unfold globL
    rw [show σ.ndI 1 = some r from h1]
    simp only
    rw [if_neg (by rw [wild_star, h2]; simp), hlen, show (1 : Int).toNat = 1 from rfl, paths_one hne hns, names_star, hth, hmay, if_neg (by decide)]
    have e1 : ((listL σ 1).map fun x => x.data.toList) = r.ents.map (·.1) := hL
    rw [show ((listL σ ((1 : Nat) : Int)).map fun x => x.data.toList) = r.ents.map (·.1) from hL, e1]
    have e2 : (r.ents.map (·.1)).filter (fun n => t.isPrefixOf n && !(n.head? == some 46 && t.isEmpty)) = (r.ents.filter ((fun n => t.isPrefixOf n && !(n.head? == some 46 && t.isEmpty)) ∘ (·.1))).map (·.1) := List.filter_map
    rw [e2]
    obtain ⟨L, hLe⟩ : ∃ L, L = r.ents.filter ((fun n => t.isPrefixOf n && !(n.head? == some 46 && t.isEmpty)) ∘ (·.1)) := ⟨_, rfl⟩
    have hKS : KSorted L := by rw [hLe]; exact List.Pairwise.filter _ (h.good.inv.srt 1 r h1)
    have hin : ∀ q ∈ L, q ∈ r.ents := fun q hq => by rw [hLe] at hq; exact (List.mem_filter.1 hq).1
    have hll : L.length ≤ 200 := by
      have := (h.good.caps 1 r h1).2.2
      have h9 : L.length ≤ r.ents.length := by rw [hLe]; exact List.length_filter_le _ _
      omega
    rw [← hLe]
    clear hLe
    have e3 : (L.map (·.1)).flatMap (fun n => if thereL σ 1 ([] ++ n) = 0 then [] else if ([] ++ n : List UInt8).length ≤ 256 then [[] ++ n] else []) = L.map (·.1) := by
      refine (flat_congr fun n hn => ?_).trans (flat_single _)
      obtain ⟨q, hq, rfl⟩ := List.mem_map.1 hn
      have hq' := hin q hq
      have hok := h.names 1 r h1 q hq'
      have h32 := h.good.live.names 1 r h1 q hq'
      have hwk := walk_one h1 h2 hok.1 (by omega) hok.2.2.2
      have hst : stepS σ 1 q.1 = (0, q.2) := by
        unfold stepS
        rw [h1]
        simp only
        unfold stepE hereE
        rw [h2, h3, if_neg (by decide), if_neg hok.2.1, if_neg hok.2.2.1, if_neg (by omega), kget_of_mem (h.good.inv.srt 1 r h1) hq']
        rfl
      have hq0 : q.2 ≠ 0 := fun e => by
        have := h.good.live.ents 1 r h1 q hq'
        rw [e] at this
        cases this
      rw [List.nil_append, if_neg ?_, if_pos (by omega)]
      unfold thereL
      rw [if_neg hok.1, show walkE σ ((1 : Nat) : Int) q.1 = (0, q.2) from hwk.trans hst, if_pos rfl]
      exact hq0
    rw [e3, sorted_keys hKS (List.Perm.refl _), compact_ne (sorted_ne hKS), List.take_of_length_le (by rw [List.length_map]; exact hll)]
  · rw [tries_one hne hns]
    exact Nat.le_trans (names_wild_len (wild_star t)) (Nat.le_trans (list_len h.good.caps _) hk)
/-- A pattern below a directory gives what it gives seen from there. -/
theorem glob_below {σ : FSt} {k : Nat} (h : LaidS σ k) (hk : k ≤ 200) {d : List UInt8} {p : List Ch} (hd0 : d ≠ []) (hdl : d.length ≤ 20) (hds : NoSl d) (hp : ∀ c ∈ p, c.b ≠ slashB) (hw : wildL p = true) {n : Nat} {nd : Nd} (hwk : walkE σ 1 d = (0, n)) (hn : σ.nd n = some nd) (hnd : nd.d = true) :
    globL σ 1 (plainL (d ++ [slashB]) ++ p) = (globL σ n p).map ((d ++ [slashB]) ++ ·) ∧ triesP σ n (p.length + 1) [] p ≤ 200 ∧ triesP σ 1 ((plainL (d ++ [slashB]) ++ p).length + 1) [] (plainL (d ++ [slashB]) ++ p) ≤ 201 := by
  obtain ⟨r, h1, h2, h3⟩ := h.root
  have hne : p ≠ [] := fun e => by rw [e] at hw; cases hw
  have hw2 : wildL (plainL (d ++ [slashB]) ++ p) = true := by unfold wildL at hw ⊢; rw [List.any_append, hw, Bool.or_true]
  have hst : stepS σ 1 d = (0, n) := (walk_one h1 h2 hd0 (by omega) hds).symm.trans hwk
  have hn0 : n ≠ 0 := nd_pos hn
  have hdl1 : (d ++ [slashB]).length ≤ 21 := by rw [List.length_append]; show d.length + 1 ≤ 21; omega
  have hth : thereL σ 1 (d ++ [slashB]) = n := by
    unfold thereL
    rw [if_neg (by simp), show walkE σ ((1 : Nat) : Int) (d ++ [slashB]) = (0, n) from walk_dir h1 h2 hd0 hds (by omega) hst hn hnd, if_pos rfl]
  obtain ⟨m, hm⟩ : ∃ m, p.length = m + 1 := ⟨p.length - 1, by have := List.length_pos_iff.2 hne; omega⟩
  have hln : (plainL (d ++ [slashB]) ++ p).length = (d.length + m) + 2 := by rw [List.length_append, plain_len, List.length_append, hm]; show d.length + 1 + (m + 1) = _; omega
  have hx : ∀ x ∈ namesP σ n [] p, (thereL σ 1 (d ++ [slashB] ++ x) = 0 ↔ thereL σ n x = 0) ∧ (d ++ [slashB] ++ x).length ≤ 256 := fun x hx => by
    have hmem : x ∈ nd.ents.map (·.1) := by
      unfold namesP at hx
      rw [hw, if_neg (by decide)] at hx
      split at hx
      · cases hx
      · have := (List.mem_filter.1 hx).1
        rw [show thereL σ n [] = n from if_pos rfl, list_nat hn hnd] at this
        exact this
    obtain ⟨q, hq, rfl⟩ := List.mem_map.1 hmem
    have hok := h.names n nd hn q hq
    have h32 := h.good.live.names n nd hn q hq
    have hl : (d ++ [slashB] ++ q.1).length ≤ 256 := by rw [List.length_append]; omega
    refine ⟨?_, hl⟩
    unfold thereL
    rw [if_neg (by simp), if_neg hok.1, show walkE σ ((1 : Nat) : Int) (d ++ [slashB] ++ q.1) = stepS σ n q.1 from walk_two h1 h2 hd0 hds hok.1 hl hok.2.2.2 hst, walk_one hn hnd hok.1 (by omega) hok.2.2.2]
  have hpb := paths_below (fuel := d.length + m) (σ := σ) hds hp hne hw hth hn0 hx
  have hfu : ∀ f g : Nat, pathsP σ n (f + 2) [] p = pathsP σ n (g + 2) [] p := fun f g => by rw [paths_one hne hp, paths_one hne hp]
  refine ⟨?_, ?_, ?_⟩
  · unfold globL
    rw [show σ.ndI 1 = some r from h1, ndI_nat hn]
    simp only
    rw [if_neg (by rw [hw2, h2]; simp), if_neg (by rw [hw, hnd]; simp), hln, show (1 : Int).toNat = 1 from rfl, Int.toNat_natCast, hpb, sort_pre, compact_pre, hm, hfu (d.length + m) m, List.map_take]
  · rw [tries_one hne hp]
    exact Nat.le_trans (names_wild_len hw) (Nat.le_trans (list_len h.good.caps _) hk)
  · rw [tries_first hds hp, hth, if_neg hn0, hln, tries_one hne hp]
    have := Nat.le_trans (names_wild_len (σ := σ) (dir := 1) (far := d ++ [slashB]) hw) (Nat.le_trans (list_len h.good.caps _) hk)
    omega
theorem root_make {σ : FSt} {r : Nd} (h : σ.nd 1 = some r) (i : Int) (s : List UInt8) (d : Bool) (m : Int) : ∃ r', (makeR σ i s d m).2.nd 1 = some r' ∧ r'.d = r.d ∧ r'.mode = r.mode := by
  unfold makeR
  split
  · exact ⟨r, h, rfl, rfl⟩
  · unfold addS linkS
    have h2 : (σ.add (newNd d m (aheadE σ i s).2.1)).nd 1 = some r := by rw [FSt.add_other (by rw [h]; rfl)]; exact h
    generalize (aheadE σ i s).2.1 = a at *
    generalize σ.add (newNd d m a) = τ at *
    cases ha : τ.nd a with
    | none => unfold entS; rw [ha]; exact ⟨r, h2, rfl, rfl⟩
    | some n =>
      rw [entS_some ha]
      by_cases e : 1 = a
      · subst e
        rw [h2] at ha
        cases ha
        exact ⟨_, (put_nd h2 _ _).trans (if_pos rfl), rfl, rfl⟩
      · exact ⟨r, by rw [put_nd ha, if_neg e]; exact h2, rfl, rfl⟩
theorem LaidS.new : LaidS newT 1 := ⟨Good.new, names_new, ⟨rootN, rfl, rfl, rfl⟩⟩
theorem LaidS.mono {σ : FSt} {k l : Nat} (h : LaidS σ k) (hkl : k ≤ l) : LaidS σ l := ⟨h.good.mono hkl, h.names, h.root⟩
theorem LaidS.make {σ : FSt} {k : Nat} (h : LaidS σ k) (i : Int) (s : List UInt8) (d : Bool) (m : Int) (hl : Live (makeR σ i s d m).2) : LaidS (makeR σ i s d m).2 (k + 1) := by
  obtain ⟨r, h1, h2, h3⟩ := h.root
  obtain ⟨r', g1, g2, g3⟩ := root_make h1 i s d m
  exact ⟨(h.good.make i s d m).good hl, h.names.make NamesN.stab (fun a => NamesN.new _ _ _), ⟨r', g1, g2.trans h2, g3.trans h3⟩⟩
end Go.Proofs.YtlhmmiolnbgloaaGreatDoor

/- glob.seeker: there; names: what a piece may be behind a path. Conditions: the contracts' own premises. -/
namespace Go.Proofs.YtlhmmiolnbgloaaGreatDoor
open Go.RowKit Go.Shelf

attribute [local go_sem] Oper.semAt_some

/-- A seeker. -/
def Seek (w : World) (q f d : Nat) (t : Nat) : Prop := w.heap[q]? = some (.cells #[.pointer (some ⟨f, 0, none⟩), .int .i64 d, .int .i64 t] 68 (0, 0))
def TherePost (w : World) (n : Nat) (e : Ending) (w' : World) : Prop := e = .returned (.int .i64 n) ∧ Fr (fun _ => False) w w'
set_option maxRecDepth 100000 in
set_option maxHeartbeats 2000000 in
theorem there_any (w : World) (q f d t : Nat) (σ : FSt) (S : Nat → Prop) (p : Nat → Nat) (hs : Seek w q f d t) (h : FilesAt w f σ S p) (hml : Ml w) (hd : d ≤ 9223372036854775807) (s : ByteArray) (hz : s.size ≤ 9223372036854775807) :
    Calls Tryz.prog 44 #[.pointer (some ⟨q, 0, none⟩), .string s] w (TherePost w (thereL σ d s.data.toList)) := by
  unfold Seek at hs
  have c0 : w.cell? ⟨q, 0, none⟩ = some (.pointer (some ⟨f, 0, none⟩)) := by rw [blk_cell hs]; rfl
  have c1 : w.cell? ⟨q, 1, none⟩ = some (.int .i64 d) := by rw [blk_cell hs]; rfl
  by_cases h0 : s.data.toList = []
  · have he := ba_empty h0
    have hfin := hide (show TherePost w (thereL σ d s.data.toList) (.returned (.int .i64 d)) w from ⟨by unfold thereL; rw [if_pos h0], Fr.refl _ _⟩)
    clear h hml hs h0
    go_enter Tryz.func44, Tryz.ntmps44
    go_wp2_with fail
    go_ret
    exact hfin.out
  · have he := ba_nonempty h0
    have hwk := hide (Walk_any w.drew f σ S p (h.frame ((Fr.refl (fun _ => False) w).drew) (fun _ _ _ e => e)) (hml.below (Fr.refl (fun _ => False) w).drew) (d : Nat) ⟨by omega, by omega⟩ s hz)
    have d0 : w.drew.cell? ⟨q, 0, none⟩ = some (.pointer (some ⟨f, 0, none⟩)) := c0
    have d1 : w.drew.cell? ⟨q, 1, none⟩ = some (.int .i64 d) := c1
    have hfin := hide (fun (w2 : World) (hf : Fr (fun _ => False) w.drew w2) (n : Int) (hn : n = (thereL σ d s.data.toList : Nat)) => (show TherePost w (thereL σ d s.data.toList) (.returned (.int .i64 n)) w2 from ⟨by rw [hn], (Fr.refl (fun _ => False) w).drew.trans hf⟩))
    have hth : thereL σ d s.data.toList = if (walkE σ d s.data.toList).1 = 0 then (walkE σ d s.data.toList).2 else 0 := by unfold thereL; rw [if_neg h0]
    rw [hth] at hfin ⊢
    generalize walkE σ d s.data.toList = r at *
    obtain ⟨E, A⟩ := r
    simp only at hwk hfin ⊢
    obtain ⟨N, hN⟩ : ∃ N : Int, N = if E = 0 then (A : Int) else 0 := ⟨_, rfl⟩
    rw [← hN] at hwk
    obtain ⟨R, hR⟩ : ∃ R : Nat, R = if E = 0 then A else 0 := ⟨_, rfl⟩
    rw [← hR] at hfin ⊢
    have HN := hide hN
    have HR := hide hR
    clear hN hR
    have Hs := hide (show w.drew.heap[q]? = _ from hs)
    clear h hml hs h0 hth c0 c1
    go_enter Tryz.func44, Tryz.ntmps44
    go_wp2_with fail
    refine region_calls_q (fun w' => w'.cell? ⟨q, 0, none⟩ = some (.pointer (some ⟨f, 0, none⟩)) ∧ w'.cell? ⟨q, 1, none⟩ = some (.int .i64 d)) [0, 1, 2, 3, 4, 5, 6, 7, 8] [9] 10 (by kernel_rfl) (by kernel_rfl) (fun _ _ d _ _ h => by cases d <;> exact h) ⟨d0, d1⟩ ?_
    simp only [List.map_cons, List.map_nil, List.getD_cons_zero, List.getD_cons_succ, List.drop_succ_cons, List.drop_zero]
    go_big_quiet_step (fail)
    refine wpQuiet_val (.pointer (some ⟨q, 0, none⟩)) rfl (fun w' hS => by (go_simp)) ?_
    simp only [Act.put, List.setIfInBounds_toArray, List.set_cons_succ, List.set_cons_zero]
    refine wpQuiet_val (.pointer (some ⟨q, 0, none⟩)) rfl (fun w' hS => by (go_simp)) ?_
    simp only [Act.put, List.setIfInBounds_toArray, List.set_cons_succ, List.set_cons_zero]
    refine wpQuiet_val (.pointer (some ⟨f, 0, none⟩)) rfl (fun w' hS => by (have e2 := hS.1; go_simp)) ?_
    simp only [Act.put, List.setIfInBounds_toArray, List.set_cons_succ, List.set_cons_zero]
    go_big_quiet_step (fail)
    refine wpQuiet_val (.pointer (some ⟨q, 0, none⟩)) rfl (fun w' hS => by (go_simp)) ?_
    simp only [Act.put, List.setIfInBounds_toArray, List.set_cons_succ, List.set_cons_zero]
    refine wpQuiet_val (.pointer (some ⟨q, 1, none⟩)) rfl (fun w' hS => by (go_simp)) ?_
    simp only [Act.put, List.setIfInBounds_toArray, List.set_cons_succ, List.set_cons_zero]
    refine wpQuiet_val (.int .i64 d) rfl (fun w' hS => by (have e2 := hS.2; go_simp)) ?_
    simp only [Act.put, List.setIfInBounds_toArray, List.set_cons_succ, List.set_cons_zero]
    go_big_quiet_step (fail)
    refine wpQuiet_nil ?_
    refine chainS_step rfl (fun K hK => ?_)
    go_wp2_with fail
    refine hwk.out.mono ?_
    rintro e w2 ⟨rfl, hf2⟩
    have hS2 : w2.cell? ⟨q, 0, none⟩ = some (.pointer (some ⟨f, 0, none⟩)) ∧ w2.cell? ⟨q, 1, none⟩ = some (.int .i64 d) := by
      have hb := hf2.get Hs.out (fun e => e)
      exact ⟨by rw [blk_cell hb]; rfl, by rw [blk_cell hb]; rfl⟩
    refine hK _ _ hS2 ?_
    clear hK K hwk hS2 Hs
    refine chainS_nil ?_
    refine ⟨fun w' => w' = w2, rfl, ?_⟩
    repeat go_big_quiet_step (fail)
    refine wpQuiet_nil ?_
    rintro w3 rfl
    by_cases hE : E = 0
    · have hN := HN.out
      have hR := HR.out
      subst hE
      rw [if_pos rfl] at hN hR
      have hout := hide (hfin.out w3 hf2 N (by rw [hN, hR]))
      clear hfin hf2 HN hN HR hR
      go_wp2_with fail
      go_ret
      exact hout.out
    · have hR := HR.out
      rw [if_neg hE] at hR
      have hout := hide (hfin.out w3 hf2 0 (by rw [hR]; rfl))
      clear hfin hf2 HN HR hR
      go_wp2_with fail
      go_ret
      exact hout.out
end Go.Proofs.YtlhmmiolnbgloaaGreatDoor
