/- files.FS.Stat, List. Conditions: the contracts' own premises. -/
import Derived.Test.YtlhmmiolnbgloaaGreatDoorFilesAsk
import Derived.Test.YtlhmmiolnbgloaaGreatDoorFilesAsk
import Derived.Test.YtlhmmiolnbgloaaGreatDoorRegionQ
namespace Go.Proofs.YtlhmmiolnbgloaaGreatDoor
open Go.RowKit

def statT (σ : FSt) (i : Int) : StQ := match σ.ndI i with | none => noSt | some n => ⟨i, if n.d then 2 else 1, n.mode, n.links, (n.data.length : Int) + (n.ents.length : Int)⟩
def statE (σ : FSt) (i : Int) : Int := match σ.ndI i with | none => 9 | some _ => 0
set_option maxRecDepth 100000 in
set_option maxHeartbeats 2000000 in
theorem Stat_any (w : World) (f : Nat) (σ : FSt) (S : Nat → Prop) (p : Nat → Nat) (h : FilesAt w f σ S p) (hcap : CapB σ) (i : Int) (hi : -9223372036854775808 ≤ i ∧ i ≤ 9223372036854775807) :
    Calls Tryz.prog 12 #[.pointer (some ⟨f, 0, none⟩), .int .i64 i] w fun e w' => e = .returned (.tuple #[stV (statT σ i), .int .i64 (statE σ i)]) ∧ Fr (fun _ => False) w w' := by
  obtain ⟨w1, hw1⟩ : ∃ w1, w1 = w.alloc (.cells #[.int .i64 0, .int .i64 0, .int .i64 0, .int .i64 0, .int .i64 0] 42 (0, 0)) := ⟨_, rfl⟩
  have hf1 : Fr (fun _ => False) w w1 := by rw [hw1]; exact (Fr.refl _ _).alloc _
  have hb1 : w1.heap[w.heap.size]? = some (.cells #[.int .i64 0, .int .i64 0, .int .i64 0, .int .i64 0, .int .i64 0] 42 (0, 0)) := by rw [hw1]; exact blk_new _ _
  have hA := h.frame hf1 (fun _ _ _ e => e)
  have hget := hide (fget_any w1 f σ S p hA i hi)
  cases hn : σ.ndI i with
  | none =>
    rw [show statT σ i = noSt by unfold statT; rw [hn], show statE σ i = 9 by unfold statE; rw [hn]]
    rw [ptrI_none hn] at hget
    clear hn hA hb1
    subst hw1
    go_enter Tryz.func12, Tryz.ntmps12
    go_wp2_with fail
    refine hget.out.mono ?_
    rintro e w2 ⟨rfl, rfl⟩
    clear hget
    go_wp2_with fail
    go_returns
    exact ⟨rfl, (Fr.refl _ _).alloc _⟩
  | some n =>
    obtain ⟨k, rfl, hk⟩ := ndI_some hn
    rw [show statT σ k = ⟨k, if n.d then 2 else 1, n.mode, n.links, (n.data.length : Int) + (n.ents.length : Int)⟩ by unfold statT; rw [hn], show statE σ k = 0 by unfold statE; rw [hn]]
    rw [ptrI_nat hk] at hget
    obtain ⟨dk, ek, pk, hN⟩ := hA.node hk
    obtain ⟨da, dc, hdv⟩ := hN.data.form
    have hlen : ∃ mo, ek = .map mo ∧ ∀ ty, (Builtin.len_ #[62] ty #[.map mo]).run Tryz.prog w1.drew = .ok (.int .i64 n.ents.length) w1.drew := by
      cases hd : n.d with
      | true =>
        obtain ⟨-, mk, hmk, hsm⟩ := hN.dir hd
        refine ⟨some mk, hmk, fun ty => ?_⟩
        rw [(hsm.frame (Fr.refl (fun _ => False) w1).drew (fun e => e)).len (t := 62) Tryz.underlying62 ty, kmap_length]
      | false =>
        obtain ⟨h1, h2⟩ := hN.file hd
        exact ⟨none, h1, fun ty => by rw [h2]; kernel_rfl⟩
    obtain ⟨mo, rfl, hl6⟩ := hlen
    have hbyts := hA.live.byts
    have hdl := byts_nd hk
    have hel := (hcap k n hk).2.2
    have hbd := blk_drew hN.hb
    have c1 : w1.drew.cell? ⟨p k, 1, none⟩ = some (.int .i64 (if n.d then 2 else 1)) := by rw [blk_cell hbd]; rfl
    have c2 : w1.drew.cell? ⟨p k, 2, none⟩ = some (.int .i64 n.mode) := by rw [blk_cell hbd]; rfl
    have c3 : w1.drew.cell? ⟨p k, 3, none⟩ = some (.int .i64 n.links) := by rw [blk_cell hbd]; rfl
    have c5 : w1.drew.cell? ⟨p k, 5, none⟩ = some (.slice da n.data.length dc) := by rw [blk_cell hbd, hdv]; rfl
    have c6 : w1.drew.cell? ⟨p k, 6, none⟩ = some (.map mo) := by rw [blk_cell hbd]; rfl
    obtain ⟨kd, hkd⟩ : ∃ kd : Int, kd = if n.d then 2 else 1 := ⟨_, rfl⟩
    rw [← hkd] at c1 ⊢
    clear hn hA hb1 hN hbd hk hcap h hkd
    subst hw1
    go_enter Tryz.func12, Tryz.ntmps12
    go_wp2_with fail
    refine hget.out.mono ?_
    rintro e w2 ⟨rfl, rfl⟩
    clear hget
    go_wp2_with fail
    refine region_tail 25 (by kernel_rfl) (by kernel_rfl) ?_
    simp only [List.take_succ_cons, List.take_zero, List.drop_succ_cons, List.drop_zero]
    repeat go_big_quiet_step (fail)
    refine wpQuiet_nil ?_
    go_wp2_with fail
    go_returns
    exact ⟨rfl, ((Fr.refl _ _).alloc _).drew⟩
/-- The names of a directory's entries. -/
def namesB (L : KA Nat) : List ByteArray := L.map fun q => ⟨q.1.toArray⟩
def listL (σ : FSt) (i : Int) : List ByteArray := match σ.ndI i with | none => [] | some n => if n.d then namesB n.ents else []
def listE (σ : FSt) (i : Int) : Int := match σ.ndI i with | none => 9 | some n => if n.d then 0 else 20
def ListPost (σ : FSt) (i : Int) (w : World) (e : Ending) (w' : World) : Prop := ∃ v, e = .returned (.tuple #[v, .int .i64 (listE σ i)]) ∧ ArgsV w' (fun k => w.heap.size ≤ k) v (listL σ i) ∧ Fr (fun _ => False) w w'
theorem args_nil (w : World) (S : Nat → Prop) : ArgsV w S (.slice none 0 0) [] := ⟨none, 0, rfl, Nat.le_refl _, fun _ => rfl, .inl rfl⟩
set_option maxRecDepth 100000 in
set_option maxHeartbeats 2000000 in
theorem List_any (w : World) (f : Nat) (σ : FSt) (S : Nat → Prop) (p : Nat → Nat) (h : FilesAt w f σ S p) (hcap : CapB σ) (i : Int) (hi : -9223372036854775808 ≤ i ∧ i ≤ 9223372036854775807) :
    Calls Tryz.prog 7 #[.pointer (some ⟨f, 0, none⟩), .int .i64 i] w (ListPost σ i w) := by
  have hget := hide (fget_any w f σ S p h i hi)
  cases hn : σ.ndI i with
  | none =>
    have hres := hide (show ListPost σ i w (.returned (.tuple #[.slice none 0 0, .int .i64 9])) w from ⟨_, by unfold listE; rw [hn], by unfold listL; rw [hn]; exact args_nil _ _, Fr.refl _ _⟩)
    rw [ptrI_none hn] at hget
    clear hn
    go_enter Tryz.func7, Tryz.ntmps7
    go_wp2_with fail
    refine hget.out.mono ?_
    rintro e w2 ⟨rfl, rfl⟩
    clear hget
    go_wp2_with fail
    go_returns
    exact hres.out
  | some n =>
    obtain ⟨k, rfl, hk⟩ := ndI_some hn
    rw [ptrI_nat hk] at hget
    obtain ⟨dk, ek, pk, hN⟩ := h.node hk
    have hdir := hide (dir_any w p (p k) k n dk ek pk hN)
    cases hd : n.d with
    | false =>
      have hres := hide (show ListPost σ k w (.returned (.tuple #[.slice none 0 0, .int .i64 20])) w from ⟨.slice none 0 0, by unfold listE; rw [hn]; simp [hd], by unfold listL; rw [hn]; simp only [hd, Bool.false_eq_true, if_false]; exact args_nil _ _, Fr.refl _ _⟩)
      rw [hd] at hdir
      clear hn hd
      go_enter Tryz.func7, Tryz.ntmps7
      go_wp2_with fail
      refine hget.out.mono ?_
      rintro e w2 ⟨rfl, rfl⟩
      clear hget
      go_wp2_with fail
      refine hdir.out.mono ?_
      rintro e w2 ⟨rfl, rfl⟩
      go_wp2_with fail
      go_returns
      exact hres.out
    | true =>
      obtain ⟨-, mk, rfl, hsm⟩ := hN.dir hd
      have hel := (hcap k n hk).2.2
      have c6 : w.cell? ⟨p k, 6, none⟩ = some (.map (some mk)) := by rw [blk_cell hN.hb]; rfl
      have hK := hide (callsIn_wide.1 (Tryz.maps_Keys_24 (some mk) w))
      have hS := hide (callsIn_wide.1 (Tryz.slices_Sorted_keys_23_24 mk (kmap (fun _ k => Value.pointer (some ⟨p k, 0, none⟩)) n.ents).length (dOf (kmap (fun _ k => Value.pointer (some ⟨p k, 0, none⟩)) n.ents)) rV w hsm.own (by rw [dOf_size, kmap_length]; unfold maxLen; omega) (by rw [dOf_size, kmap_length]; omega)))
      have hsrt := hide hsm.sorted
      have hdefE : listE σ k = 0 := by unfold listE; rw [hn]; simp [hd]
      have hdefL : listL σ k = namesB n.ents := by unfold listL; rw [hn]; simp [hd]
      have hfin := hide (show ∀ (v : Value) (ss : List (List UInt8)) (w2 : World), ss.Perm (Go.strKeys (dOf (kmap (fun _ k => Value.pointer (some ⟨p k, 0, none⟩)) n.ents))) → w2.ownsRow (w.heap.size + 1) 9 1 v ss.length ((ss.mergeSort (fun x y => decide (x ≤ y))).map encStr) → Fr (fun _ => False) w w2 → ListPost σ k w (.returned (.tuple #[v, .int .i64 0])) w2 from fun v ss w2 h1 h2 h3 => by
        rw [dOf_keys] at h1
        rw [sorted_keys hsrt.out h1, kmap_keys] at h2
        refine ⟨v, by rw [hdefE], ?_, h3⟩
        rw [hdefL]
        refine own_args (base := w.heap.size + 1) (n := ss.length) ?_ (by rw [h1.length_eq]; simp [namesB, kmap_length]) (fun q hq => by omega)
        have e : strs (namesB n.ents) = (n.ents.map (·.1)).map encStr := by simp [strs, namesB, encStr]
        rw [e]
        exact h2)
      rw [hd] at hdir
      clear hn hd hN hsm hdefE hdefL hel
      go_enter Tryz.func7, Tryz.ntmps7
      go_wp2_with fail
      refine hget.out.mono ?_
      rintro e w2 ⟨rfl, rfl⟩
      clear hget
      go_wp2_with fail
      refine hdir.out.mono ?_
      rintro e w2 ⟨rfl, rfl⟩
      go_wp2_with fail
      refine hK.out.mono ?_
      rintro e w2 ⟨rfl, rfl⟩
      clear hK
      go_wp2_with fail
      refine hS.out.mono ?_
      rintro e w2 ⟨v, ss, rfl, hp, hrow, _, hb2⟩
      have hres := hide (hfin.out v ss w2 hp (by simpa using hrow) (((Fr.refl _ _).alloc _).trans (Fr.of_below hb2 _)))
      obtain ⟨va, vc, rfl⟩ := own_form hrow
      clear hS hfin hp hrow hb2
      go_wp2_with fail
      go_returns
      exact hres.out
end Go.Proofs.YtlhmmiolnbgloaaGreatDoor

/- The paths that a pattern matches in a tree, as plain data. No program in sight; no condition. -/
namespace Go.Proofs.YtlhmmiolnbgloaaGreatDoor
open Go.RowKit

open Classical in
/-- Does a pattern take the whole of a text? -/
noncomputable def matchL (p : List Ch) (s : List UInt8) : Bool := decide (Mt ⟨p, s, [], [], false⟩ true)
theorem Mt.val {p : List Ch} {s : List UInt8} {r : Bool} (h : Mt ⟨p, s, [], [], false⟩ r) : matchL p s = r := by
  unfold matchL
  cases r with
  | true => simpa using h
  | false =>
    have : ¬ Mt ⟨p, s, [], [], false⟩ true := fun h2 => by cases h.det h2
    simpa using this
def wildL (p : List Ch) : Bool := p.any fun c => !c.q && (c.b == starB || c.b == qmB || c.b == opB)
def textL (p : List Ch) : List UInt8 := p.map (·.b)
/-- Where a path leads; 0: nowhere. -/
def thereL (σ : FSt) (dir : Nat) (path : List UInt8) : Nat := if path = [] then dir else if (walkE σ dir path).1 = 0 then (walkE σ dir path).2 else 0
def hiddenL (piece : List Ch) (n : List UInt8) : Bool := n.head? == some 46 && !(piece.head?.map (·.b) == some 46)
/-- What a piece may be behind a path. -/
noncomputable def namesP (σ : FSt) (dir : Nat) (far : List UInt8) (piece : List Ch) : List (List UInt8) :=
  if wildL piece = false then [textL piece]
  else if mayR σ (thereL σ dir far) 5 = false then []
  else ((listL σ (thereL σ dir far)).map fun x => x.data.toList).filter fun n => !hiddenL piece n && matchL piece n
def cutP (p : List Ch) : Nat := p.findIdx fun c => c.b == slashB
def skipP (p : List Ch) : Nat := cutP p + ((p.drop (cutP p)).takeWhile fun c => c.b == slashB).length
/-- The paths (fuel: more than the pattern's length). -/
noncomputable def pathsP (σ : FSt) (dir : Nat) : Nat → List UInt8 → List Ch → List (List UInt8)
  | 0, _, _ => []
  | fuel + 1, far, p => if p = [] then (if far.length ≤ 256 then [far] else []) else
      (namesP σ dir far (p.take (cutP p))).flatMap fun n =>
        let next := far ++ n ++ textL ((p.take (skipP p)).drop (cutP p))
        if thereL σ dir next = 0 then [] else pathsP σ dir fuel next (p.drop (skipP p))
/-- What Paths answers, where few paths are tried. -/
noncomputable def globL (σ : FSt) (dir : Int) (p : List Ch) : List (List UInt8) :=
  match σ.ndI dir with
  | none => []
  | some n => if n.d = false ∨ wildL p = false then [] else (compactL ((pathsP σ dir.toNat (p.length + 1) [] p).mergeSort fun x y => decide (x ≤ y))).take 200
theorem cut_none {p : List Ch} (h : ∀ c ∈ p, c.b ≠ slashB) : cutP p = p.length := by
  unfold cutP
  rw [List.findIdx_eq_length]
  intro c hc
  simpa using h c hc
theorem skip_none {p : List Ch} (h : ∀ c ∈ p, c.b ≠ slashB) : skipP p = p.length := by
  unfold skipP
  rw [cut_none h, List.drop_length]
  simp
/-- A pattern of one piece. -/
theorem paths_one {σ : FSt} {dir fuel : Nat} {far : List UInt8} {p : List Ch} (hne : p ≠ []) (h : ∀ c ∈ p, c.b ≠ slashB) :
    pathsP σ dir (fuel + 2) far p = (namesP σ dir far p).flatMap fun n => if thereL σ dir (far ++ n) = 0 then [] else if (far ++ n).length ≤ 256 then [far ++ n] else [] := by
  rw [pathsP, if_neg hne, cut_none h, skip_none h, List.take_length, List.drop_length]
  congr 1
  funext n
  simp only [textL, List.map_nil, List.append_nil]
  by_cases e : thereL σ dir (far ++ n) = 0
  · rw [if_pos e, if_pos e]
  · rw [if_neg e, if_neg e, pathsP, if_pos rfl]
theorem wild_star (t : List UInt8) : wildL (plainL t ++ [un starB]) = true := by
  unfold wildL
  rw [List.any_append]
  simp [un]
theorem hid_star (t n : List UInt8) : (!hiddenL (plainL t ++ [un starB]) n && t.isPrefixOf n) = (t.isPrefixOf n && !(n.head? == some 46 && t.isEmpty)) := by
  cases t with
  | nil => simp [hiddenL, plainL, un, starB, Bool.and_comm]
  | cons c t =>
    cases n with
    | nil => simp [List.isPrefixOf]
    | cons d n =>
      by_cases e : c = d
      · subst e
        simp [hiddenL, plainL, List.isPrefixOf]
      · simp [List.isPrefixOf, e]
/-- A quoted text with a star. -/
theorem names_star {σ : FSt} {dir : Nat} {far t : List UInt8} : namesP σ dir far (plainL t ++ [un starB]) = if mayR σ (thereL σ dir far) 5 = false then [] else ((listL σ (thereL σ dir far)).map fun x => x.data.toList).filter fun n => t.isPrefixOf n && !(n.head? == some 46 && t.isEmpty) := by
  unfold namesP
  rw [wild_star, if_neg (by decide)]
  congr 2
  funext n
  rw [(match_pre t n).val, hid_star]
theorem cut_dir {p : List Ch} : ∀ {d : List UInt8}, (∀ c ∈ d, c ≠ slashB) → cutP (plainL (d ++ [slashB]) ++ p) = d.length
  | [], _ => by simp [cutP, plainL, List.findIdx_cons]
  | c :: d, h => by
    have ih := cut_dir (p := p) (d := d) (fun x hx => h x (List.mem_cons_of_mem _ hx))
    have hc : (c == slashB) = false := by simpa using h c (by simp)
    unfold cutP at ih ⊢
    simp only [plainL, List.cons_append, List.map_cons, List.findIdx_cons, hc, cond_false, List.length_cons] at ih ⊢
    rw [ih]
theorem wild_plain (d : List UInt8) : wildL (plainL d) = false := by
  unfold wildL plainL
  rw [List.any_eq_false]
  intro c hc
  obtain ⟨x, _, rfl⟩ := List.mem_map.1 hc
  simp
theorem text_plain (d : List UInt8) : textL (plainL d) = d := by unfold textL plainL; rw [List.map_map]; exact List.map_id d
theorem plain_split (d : List UInt8) (p : List Ch) : plainL (d ++ [slashB]) ++ p = plainL d ++ (⟨slashB, true⟩ :: p) := by simp [plainL]
theorem plain_len (d : List UInt8) : (plainL d).length = d.length := by simp [plainL]
theorem skip_dir {p : List Ch} {d : List UInt8} (h : ∀ c ∈ d, c ≠ slashB) (hp : ∀ c ∈ p, c.b ≠ slashB) : skipP (plainL (d ++ [slashB]) ++ p) = d.length + 1 := by
  unfold skipP
  rw [cut_dir h, plain_split, ← plain_len d, List.drop_left]
  cases p with
  | nil => simp
  | cons c p =>
    have hc : (c.b == slashB) = false := by simpa using hp c (by simp)
    simp [List.takeWhile_cons, hc]
/-- A directory's name, quoted, ahead of a pattern. -/
theorem paths_first {σ : FSt} {dir fuel : Nat} {d : List UInt8} {p : List Ch} (h : ∀ c ∈ d, c ≠ slashB) (hp : ∀ c ∈ p, c.b ≠ slashB) :
    pathsP σ dir (fuel + 1) [] (plainL (d ++ [slashB]) ++ p) = if thereL σ dir (d ++ [slashB]) = 0 then [] else pathsP σ dir fuel (d ++ [slashB]) p := by
  have e1 : (plainL (d ++ [slashB]) ++ p).take d.length = plainL d := by rw [plain_split, ← plain_len d, List.take_left]
  have e2 : ((plainL (d ++ [slashB]) ++ p).take (d.length + 1)).drop d.length = [⟨slashB, true⟩] := by
    rw [plain_split, ← plain_len d, List.drop_take, List.drop_left, Nat.add_sub_cancel_left]
    rfl
  have e3 : (plainL (d ++ [slashB]) ++ p).drop (d.length + 1) = p := by
    rw [plain_split, ← plain_len d, ← List.drop_drop, List.drop_left]
    rfl
  rw [pathsP, if_neg (by simp [plainL]), cut_dir h, skip_dir h hp, e1, e2, e3]
  have e4 : namesP σ dir [] (plainL d) = [d] := by unfold namesP; rw [if_pos (wild_plain d), text_plain]
  rw [e4]
  simp [textL]
theorem flat_congr {α β : Type} {f g : α → List β} : ∀ {l : List α}, (∀ x ∈ l, f x = g x) → l.flatMap f = l.flatMap g
  | [], _ => rfl
  | x :: l, h => by rw [List.flatMap_cons, List.flatMap_cons, h x (by simp), flat_congr fun y hy => h y (List.mem_cons_of_mem _ hy)]
/-- A pattern below a directory gives what it gives seen from there. -/
theorem paths_below {σ : FSt} {n fuel : Nat} {d : List UInt8} {p : List Ch} (h : ∀ c ∈ d, c ≠ slashB) (hp : ∀ c ∈ p, c.b ≠ slashB) (hne : p ≠ []) (hw : wildL p = true) (hn : thereL σ 1 (d ++ [slashB]) = n) (h0 : n ≠ 0)
    (hx : ∀ x ∈ namesP σ n [] p, (thereL σ 1 (d ++ [slashB] ++ x) = 0 ↔ thereL σ n x = 0) ∧ (d ++ [slashB] ++ x).length ≤ 256) :
    pathsP σ 1 (fuel + 3) [] (plainL (d ++ [slashB]) ++ p) = (pathsP σ n (fuel + 2) [] p).map ((d ++ [slashB]) ++ ·) := by
  have hnm : namesP σ 1 (d ++ [slashB]) p = namesP σ n [] p := by
    unfold namesP
    simp only [hw, Bool.true_eq_false, if_false]
    rw [hn, show thereL σ n [] = n from if_pos rfl]
  rw [paths_first h hp, if_neg (by rw [hn]; exact h0), paths_one hne hp, paths_one hne hp, hnm, List.map_flatMap]
  refine flat_congr fun x hx1 => ?_
  obtain ⟨a1, a2⟩ := hx x hx1
  rw [List.nil_append]
  by_cases e : thereL σ n x = 0
  · rw [if_pos e, if_pos (a1.2 e)]; rfl
  · have a3 : x.length ≤ 256 := by rw [List.length_append] at a2; omega
    rw [if_neg e, if_neg (fun h => e (a1.1 h)), if_pos a2, if_pos a3]
    rfl
end Go.Proofs.YtlhmmiolnbgloaaGreatDoor
