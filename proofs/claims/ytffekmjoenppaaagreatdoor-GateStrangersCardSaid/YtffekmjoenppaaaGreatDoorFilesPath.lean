/- The tree of files as plain data: the way to a directory, as a text. No program in sight; no condition. -/
import Derived.Test.YtffekmjoenppaaaGreatDoorFilesKeep
import Derived.Test.YtffekmjoenppaaaGreatDoorFilesA
import Derived.LaidEqlPtr
import Derived.Lib.Builder
import Derived.Test.YtffekmjoenppaaaGreatDoorFilesX
import Derived.Maps.RangeWalk
import Derived.StringKeys
import Derived.Deep.LoopGhost
namespace Go.Proofs.YtffekmjoenppaaaGreatDoor
open Go.RowKit

/-- The text that leads to a directory (empty: the root). -/
inductive Up (σ : FSt) : Nat → List UInt8 → Prop
  | root : Up σ 1 []
  | step {i : Nat} {n m : Nd} {nm s : List UInt8} : i ≠ 1 → σ.nd i = some n → n.d = true → n.links ≠ 0 → σ.nd n.par = some m → m.d = true → kget nm m.ents = some i → Up σ n.par s → Up σ i (s ++ slashB :: nm)
/-- What is asked for is told. -/
def pathE (σ : FSt) (i : Int) : Int := match σ.ndI i with | none => 9 | some n => if n.d = false then 20 else if i ≠ 1 ∧ n.links = 0 then 2 else 0
open Classical in
noncomputable def wayT (σ : FSt) (i : Nat) : List UInt8 := if h : ∃ s, Up σ i s then Classical.choose h else []
def slashed (s : List UInt8) : List UInt8 := if s = [] then [slashB] else s
noncomputable def pathR (σ : FSt) (i : Int) : List UInt8 := if pathE σ i = 0 then slashed (wayT σ i.toNat) else []
theorem Inv.links_le {σ : FSt} (h : Inv σ 0) {i : Nat} {n : Nd} (hi : σ.nd i = some n) (hd : n.d = true) (h1 : i ≠ 1) : refs σ i ≤ 1 := by
  have h2 := h.cnt i n hi h1
  rw [if_neg (nd_pos hi)] at h2
  have := h.one i n hi hd
  omega
/-- A directory's name is one. -/
theorem Inv.name_one {σ : FSt} (h : Inv σ 0) {i a : Nat} {n m : Nd} (hi : σ.nd i = some n) (hd : n.d = true) (h1 : i ≠ 1) (ha : σ.nd a = some m) {s t : List UInt8} (hs : kget s m.ents = some i) (ht : kget t m.ents = some i) : s = t :=
  (refs_unique (h.links_le hi hd h1) ha ha (h.srt a m ha) hs ht).2
theorem Up.det {σ : FSt} (h : Inv σ 0) : ∀ {i : Nat} {s : List UInt8}, Up σ i s → ∀ {t : List UInt8}, Up σ i t → s = t
  | _, _, .root, _, .root => rfl
  | _, _, .root, _, .step h1 _ _ _ _ _ _ _ => absurd rfl h1
  | _, _, .step h1 _ _ _ _ _ _ _, _, .root => absurd rfl h1
  | _, _, .step h1 h2 h3 h4 h5 h6 h7 h8, _, .step g1 g2 g3 g4 g5 g6 g7 g8 => by
    rw [h2] at g2
    cases g2
    rw [h5] at g5
    cases g5
    rw [h.name_one h2 h3 h1 h5 h7 g7, h8.det h g8]
theorem Up.len {σ : FSt} (hL : Live σ) : ∀ {i : Nat} {s : List UInt8}, Up σ i s → ∀ {d : Nat}, Dep σ 0 1 i d → s.length ≤ 33 * d
  | _, _, .root, _, _ => Nat.zero_le _
  | _, _, .step h1 h2 h3 h4 h5 h6 h7 h8, d, hd => by
    obtain ⟨k, rfl, hk⟩ := hd.go_up h2 h1
    have h9 := h8.len hL hk
    have h10 := hL.names _ _ h5 _ (kget_mem h7)
    simp only [List.length_append, List.length_cons] at *
    omega
theorem Up.more {σ : FSt} (h : Inv σ 0) : ∀ {d i : Nat}, Dep σ 0 1 i d → (σ.nd i).isSome = true → ∃ s, Up σ i s
  | _, _, .base _, _ => ⟨[], .root⟩
  | _, _, .up h1 h2 h3 h4 h5 h6, _ => by
    obtain ⟨m, nm, a1, a2, a3, a4⟩ := h.above h3 h4 h5 h1 h2
    obtain ⟨s, hs⟩ := Up.more h h6 (by rw [a1]; rfl)
    exact ⟨_, .step h1 h3 h4 h5 a1 a2 a4 hs⟩
theorem Inv.path {σ : FSt} (h : Inv σ 0) {i : Nat} {n : Nd} (hn : σ.nd i = some n) (hd : n.d = true) (hl : n.links ≠ 0) : ∃ s, Up σ i s := by
  obtain ⟨k, hk⟩ := h.to_root hn hd hl
  exact Up.more h hk (by rw [hn]; rfl)
theorem Up.way {σ : FSt} (h : Inv σ 0) {i : Nat} {s : List UInt8} (hs : Up σ i s) : wayT σ i = s := by
  have h1 : ∃ s, Up σ i s := ⟨s, hs⟩
  unfold wayT
  rw [dif_pos h1]
  exact (Classical.choose_spec h1).det h hs
end Go.Proofs.YtffekmjoenppaaaGreatDoor

/- Pointers to inodes held against each other. Conditions: the lemmas' own premises. -/
namespace Go.Proofs.YtffekmjoenppaaaGreatDoor
open Go.RowKit

theorem node_info : ∃ j, Tryz.prog.info? 90 = some j ∧ j.size ≠ 0 := by
  have h : (Tryz.prog.info? 90).any (fun j => j.size != 0) = true := by kernel_rfl
  cases hj : Tryz.prog.info? 90 with
  | none => rw [hj] at h; cases h
  | some j => rw [hj] at h; exact ⟨j, rfl, by simpa using h⟩
theorem ptr_eql (w : World) (b : Nat) : (binOp .eql 84 (.pointer (some ⟨b, 0, none⟩)) (.pointer (some ⟨b, 0, none⟩))).run Tryz.prog w = .ok (.bool true) w := by
  obtain ⟨j, hj, _⟩ := node_info
  exact run_eql_ptr_same w _ Tryz.underlying84 hj
theorem ptr_neq (w : World) (b : Nat) : (binOp .neq 84 (.pointer (some ⟨b, 0, none⟩)) (.pointer (some ⟨b, 0, none⟩))).run Tryz.prog w = .ok (.bool false) w := by
  obtain ⟨j, hj, _⟩ := node_info
  exact Lib.run_neq_ptr_same w _ Tryz.underlying84 hj
theorem ptr_eql_other {w : World} {a b : Nat} {ca cb : Array Value} {ta tb : TypeId} (hne : ¬ a = b) (ha : w.heap[a]? = some (.cells ca ta (0, 0))) (hb : w.heap[b]? = some (.cells cb tb (0, 0))) :
    (binOp .eql 84 (.pointer (some ⟨a, 0, none⟩)) (.pointer (some ⟨b, 0, none⟩))).run Tryz.prog w = .ok (.bool false) w := by
  obtain ⟨j, hj, hz⟩ := node_info
  exact run_eql_ptr_other w Tryz.underlying84 hj hz (fun e => hne (congrArg Addr.block e)) ha hb
theorem ptr_neq_other {w : World} {a b : Nat} {ca cb : Array Value} {ta tb : TypeId} (hne : ¬ a = b) (ha : w.heap[a]? = some (.cells ca ta (0, 0))) (hb : w.heap[b]? = some (.cells cb tb (0, 0))) :
    (binOp .neq 84 (.pointer (some ⟨a, 0, none⟩)) (.pointer (some ⟨b, 0, none⟩))).run Tryz.prog w = .ok (.bool true) w := by
  obtain ⟨j, hj, hsz⟩ := node_info
  have hne2 : (⟨a, 0, none⟩ : Addr) ≠ ⟨b, 0, none⟩ := fun e => hne (congrArg Addr.block e)
  have h : ∀ d : Nat, (Op.equalIn (d + 1) 84 (.pointer (some ⟨a, 0, none⟩)) (.pointer (some ⟨b, 0, none⟩))).run Tryz.prog w = .ok false w := fun d => by
    simp [Op.equalIn, run_underlying Tryz.underlying84, sizeOf, typeInfo, hj, hsz, run_sameAddr_other w hne2 ha hb]
  simp only [binOp]
  simp [Op.equal, Op.maxDepth, h 9999]
end Go.Proofs.YtffekmjoenppaaaGreatDoor

/- files.FS.Path. Conditions: the contract's own premises. -/
namespace Go.Proofs.YtffekmjoenppaaaGreatDoor
open Go.RowKit Go.Maps

theorem str_inv {P : Program} {k : TypeId} (hk : P.underlying k = some .string) {key : Value} {kl : Lit} (h : keyOf P k key = some kl) : ∃ s : ByteArray, key = .string s ∧ kl = .string s.data.toList := by
  have h' := h
  cases key <;> simp [keyOf, hk, mapKey] at h'
  rename_i s
  exact ⟨s, rfl, h'.2.symm⟩
def PathPost (σ : FSt) (i : Int) (w : World) (e : Ending) (w' : World) : Prop := e = .returned (.tuple #[.string ⟨(pathR σ i).toArray⟩, .int .i64 (pathE σ i)]) ∧ Fr (fun _ => False) w w'
def PathRel (σ : FSt) (p : Nat → Nat) (full : List UInt8) (w : World) (gk : Nat) (nv sv : Value) (wr : World) : Prop :=
  ∃ (j : Nat) (n : Nd) (t : List UInt8) (s : ByteArray), nv = .pointer (some ⟨p j, 0, none⟩) ∧ sv = .string s ∧ Dep σ 0 1 j gk ∧ σ.nd j = some n ∧ n.d = true ∧ n.links ≠ 0 ∧ Up σ j t ∧ t ++ s.data.toList = full ∧ Fr (fun _ => False) w wr
def PathIn (nm : List UInt8) (s0 : ByteArray) (L : KL) (mb r : Nat) (w : World) (gk : Nat) (sv : Value) (wx : World) : Prop :=
  ∃ (left : Lit → Bool) (s : ByteArray), sv = .string s ∧ wx.ranges Tryz.prog 9 rV mb r L.length (dOf L) left gk ∧ s.data.toList = (if left (.string nm) = true then s0.data.toList else slashB :: nm ++ s0.data.toList) ∧ Fr (fun _ => False) w wx
set_option maxRecDepth 100000 in
set_option maxHeartbeats 4000000 in
theorem Path_any (w : World) (f : Nat) (σ : FSt) (S : Nat → Prop) (p : Nat → Nat) (h : FilesAt w f σ S p) (hI : Inv σ 0) (i : Int) (hi : -9223372036854775808 ≤ i ∧ i ≤ 9223372036854775807) :
    Calls Tryz.prog 80 #[.pointer (some ⟨f, 0, none⟩), .int .i64 i] w (PathPost σ i w) := by
  have hget := hide (fget_any w f σ S p h i hi)
  have hpE : pathE σ i = match σ.ndI i with | none => 9 | some n => if n.d = false then 20 else if i ≠ 1 ∧ n.links = 0 then 2 else 0 := rfl
  have herr := hide (show ∀ E w', pathE σ i = E → E ≠ 0 → Fr (fun _ => False) w w' → PathPost σ i w (.returned (.tuple #[.string ⟨#[]⟩, .int .i64 E])) w' from fun E w' h1 h2 h3 => ⟨by unfold pathR; rw [h1, if_neg h2], h3⟩)
  have hroot : ∀ w', Fr (fun _ => False) w w' → w'.cell? ⟨f, 1 + 1, none⟩ = w'.cell? ⟨f, 1 + 1, none⟩ := fun _ _ => rfl
  clear hroot
  cases hn : σ.ndI i with
  | none =>
    rw [hn] at hpE
    have hres := hide (herr.out 9 w hpE (by decide) (Fr.refl _ _))
    rw [ptrI_none hn] at hget
    clear hpE herr hn
    go_enter Tryz.func80, Tryz.ntmps80
    go_wp2_with fail
    refine hget.out.mono ?_
    rintro e w1 ⟨rfl, rfl⟩
    go_wp2_with fail
    go_returns
    exact hres.out
  | some n =>
  rw [hn] at hpE
  obtain ⟨k, rfl, hk⟩ := ndI_some hn
  rw [ptrI_nat hk] at hget
  obtain ⟨dk, ek, pk, hNk⟩ := h.node hk
  have hdir := hide (dir_any w p (p k) k n dk ek pk hNk)
  clear hn
  cases hd : n.d with
  | false =>
    simp only [hd] at hpE
    have hres := hide (herr.out 20 w (by rw [hpE]; rfl) (by decide) (Fr.refl _ _))
    rw [hd] at hdir
    clear hpE herr hNk
    go_enter Tryz.func80, Tryz.ntmps80
    go_wp2_with fail
    refine hget.out.mono ?_
    rintro e w1 ⟨rfl, rfl⟩
    go_wp2_with fail
    refine hdir.out.mono ?_
    rintro e w1 ⟨rfl, rfl⟩
    go_wp2_with fail
    go_returns
    exact hres.out
  | true =>
  rw [hd] at hdir
  simp only [hd] at hpE
  have hinj : ∀ i j, (σ.nd i).isSome = true → (σ.nd j).isSome = true → p i = p j → i = j := by obtain ⟨_, _, _, _, hF⟩ := h; exact hF.inj
  have hrt : ∀ w', Fr (fun _ => False) w w' → w'.cell? ⟨f, 2, none⟩ = some (.pointer (some ⟨p 1, 0, none⟩)) := fun w' hf => by
    obtain ⟨_, _, _, _, hF⟩ := h.frame hf (fun _ _ _ e => e)
    rw [blk_cell hF.hb]; rfl
  obtain ⟨r1, hr1, _, hr1l⟩ := h.live.root
  have hk1s : (σ.nd 1).isSome = true := by rw [hr1]; rfl
  have hks : (σ.nd k).isSome = true := by rw [hk]; rfl
  by_cases hz : k ≠ 1 ∧ n.links = 0
  · have hres := hide (herr.out 2 w (by rw [hpE, if_neg (by decide), if_pos ⟨by have := hz.1; omega, hz.2⟩]) (by decide) (Fr.refl _ _))
    have c2 := hrt w (Fr.refl _ _)
    have hpne : ¬ p k = p 1 := fun e => hz.1 (hinj k 1 hks hk1s e)
    have c3 : w.cell? ⟨p k, 3, none⟩ = some (.int .i64 0) := by rw [blk_cell hNk.hb, hz.2]; rfl
    obtain ⟨_, _, _, hN1⟩ := h.node hr1
    have hcmp := ptr_neq_other hpne hNk.hb hN1.hb
    clear hN1
    clear hpE herr hNk hz hrt hinj
    go_enter Tryz.func80, Tryz.ntmps80
    go_wp2_with fail
    refine hget.out.mono ?_
    rintro e w1 ⟨rfl, rfl⟩
    go_wp2_with fail
    refine hdir.out.mono ?_
    rintro e w1 ⟨rfl, rfl⟩
    go_wp2_with fail
    go_loopg [6, 7] 1 (fun gk nv sv wr => gk = 1 ∧ nv = .pointer (some ⟨p k, 0, none⟩) ∧ sv = .string ⟨#[]⟩ ∧ w = wr)
    case atStart => exact ⟨rfl, rfl, rfl, rfl⟩
    case round =>
      obtain ⟨rfl, rfl, rfl, rfl⟩ := hrel
      go_wp2_with fail
      go_returns
      exact hres.out
  have hl : n.links ≠ 0 := fun e => by
    by_cases e1 : k = 1
    · rw [e1, hr1] at hk
      cases hk
      omega
    · exact hz ⟨e1, e⟩
  have hp0 : pathE σ k = 0 := by rw [hpE, if_neg (by decide), if_neg (fun e => hz ⟨by have := e.1; omega, e.2⟩)]
  obtain ⟨m, hm⟩ := hI.to_root hk hd hl
  obtain ⟨full, hfull⟩ := hI.path hk hd hl
  have hshort := hm.short h.live
  have hflen := hfull.len h.live hm
  have hok9 := hide (show ∀ w', Fr (fun _ => False) w w' → PathPost σ k w (.returned (.tuple #[.string ⟨(slashed full).toArray⟩, .int .i64 0])) w' from fun w' h3 => ⟨by unfold pathR; rw [hp0, if_pos rfl, Int.toNat_natCast, hfull.way hI], h3⟩)
  have hflen2 : full.length ≤ 3300 := by omega
  have H0 := hide (show PathRel σ p full w m (.pointer (some ⟨p k, 0, none⟩)) (.string ⟨#[]⟩) w from ⟨k, n, full, ⟨#[]⟩, rfl, rfl, hm, hk, hd, hl, hfull, by simp, Fr.refl _ _⟩)
  have HA := hide h
  have HI := hide hI
  have Hinj := hide hinj
  have Hrt := hide hrt
  have Hr1 := hide hr1
  clear hpE herr hNk hz hrt hinj hp0 hm hfull hflen h hI hl hk hd hr1
  go_enter Tryz.func80, Tryz.ntmps80
  go_wp2_with fail
  refine hget.out.mono ?_
  rintro e w1 ⟨rfl, rfl⟩
  go_wp2_with fail
  refine hdir.out.mono ?_
  rintro e w1 ⟨rfl, rfl⟩
  go_wp2_with fail
  go_loopg [6, 7] m (fun gk nv sv wr => PathRel σ p full w gk nv sv wr)
  case atStart => exact H0.out
  case round =>
    clear H0 hget hdir
    obtain ⟨j, nj, t, s, rfl, rfl, hdep, hj, hjd, hjl, hup, hts, hfr⟩ := hrel
    have c2 := Hrt.out wr hfr
    have hslen : s.size ≤ 3300 := by
      have := congrArg List.length hts
      rw [List.length_append, ba_len] at this
      omega
    have hjs : (σ.nd j).isSome = true := by rw [hj]; rfl
    by_cases hj1 : j = 1
    · subst hj1
      cases hup with
      | step h1 => exact absurd rfl h1
      | root =>
      rw [List.nil_append] at hts
      have hres := hide (hok9.out wr hfr)
      have hcmp := ptr_neq wr (p 1)
      by_cases hs0 : full = []
      · have es : s.toList.isEmpty = true := ba_empty (by rw [hts, hs0])
        have e0 : s = ⟨#[]⟩ := ba_of_data (by rw [hts, hs0])
        have hfin : (⟨(slashed full).toArray⟩ : ByteArray) = ⟨#[47]⟩ := by rw [hs0]; rfl
        rw [hfin] at hres
        subst e0
        clear hdep hj hjd hjl hts hfr hs0 hok9 hfin es
        go_wp2_with fail
        go_returns
        exact hres.out
      · have hfin : (⟨(slashed full).toArray⟩ : ByteArray) = s := by
          unfold slashed
          rw [if_neg hs0, ← hts]
        rw [hfin] at hres
        have es : s.toList.isEmpty = false := ba_nonempty (by rw [hts]; exact hs0)
        have es2 : (s.toList == []) = false := by
          cases hx : s.toList with
          | nil => rw [hx] at es; cases es
          | cons a b => rfl
        clear hdep hj hjd hjl hts hfr hs0 hok9 hfin
        go_wp2_with fail
        go_returns
        exact hres.out
    · have hpne : ¬ p j = p 1 := fun e => hj1 (Hinj.out j 1 hjs hk1s e)
      have hA := HA.out.frame hfr (fun _ _ _ e => e)
      obtain ⟨dj, ej, pj, hNj⟩ := hA.node hj
      have hpv := hNj.par hjd (Nat.pos_of_ne_zero hjl)
      obtain ⟨_, _, _, hN1⟩ := hA.node Hr1.out
      have hcmp := ptr_neq_other hpne hNj.hb hN1.hb
      clear hN1
      have c7 : wr.cell? ⟨p j, 7, none⟩ = some (.pointer (some ⟨p nj.par, 0, none⟩)) := by rw [blk_cell hNj.hb, hpv]; rfl
      have c3 : wr.cell? ⟨p j, 3, none⟩ = some (.int .i64 nj.links) := by rw [blk_cell hNj.hb]; rfl
      have hl1 : ((nj.links : Int) == 0) = false := by simpa using hjl
      have hl2 : ¬ (nj.links : Int) = 0 := by omega
      cases hup with
      | root => exact absurd rfl hj1
      | step g1 g2 g3 g4 g5 g6 g7 g8 =>
      rename_i n' q nm u
      rw [hj] at g2
      cases g2
      obtain ⟨dq, eq, pq, hNq⟩ := hA.node g5
      obtain ⟨-, mb, heq, hsm⟩ := hNq.dir g6
      have c6 : wr.cell? ⟨p nj.par, 6, none⟩ = some (.map (some mb)) := by rw [blk_cell hNq.hb, heq]; rfl
      obtain ⟨g, rfl, hdep2⟩ := hdep.go_up hj hj1
      have hql : q.links ≠ 0 := fun e => by
        obtain ⟨q2, _, b1, _, b3, _⟩ := HI.out.above hj hjd hjl hj1 (nd_pos hj)
        rw [g5] at b1
        cases b1
        exact b3 e
      have hnext := hide (show ∀ (s' : ByteArray) wx, s'.data.toList = slashB :: nm ++ s.data.toList → Fr (fun _ => False) w wx → PathRel σ p full w g (.pointer (some ⟨p nj.par, 0, none⟩)) (.string s') wx from fun s' wx h1 h2 =>
        ⟨nj.par, q, u, s', rfl, rfl, hdep2, g5, g6, hql, g8, by rw [h1, ← hts]; simp, h2⟩)
      have hname := hide (show ∀ x : List UInt8, kget x q.ents = some j → x = nm from fun x hx => HI.out.name_one hj hjd hj1 g5 hx g7)
      have hkeys := hide (show ∀ (x : List UInt8) c, kget x (kmap (fun (_ : List UInt8) k => Value.pointer (some ⟨p k, 0, none⟩)) q.ents) = some c → ∃ k', c = .pointer (some ⟨p k', 0, none⟩) ∧ (σ.nd k').isSome = true ∧ kget x q.ents = some k' from fun x c hx => by
        rw [kget_kmap] at hx
        cases hq : kget x q.ents with
        | none => rw [hq] at hx; cases hx
        | some k' =>
          rw [hq] at hx
          cases hx
          exact ⟨k', rfl, HA.out.live.ents _ q g5 _ (kget_mem hq), rfl⟩)
      have hnmk := hide g7
      have hnm32 := hide (HA.out.live.names _ q g5 _ (kget_mem g7))
      have hxlen := hide (show ∀ x k', kget x q.ents = some k' → x.length ≤ 32 from fun x k' hx => HA.out.live.names _ q g5 _ (kget_mem hx))
      have Hjs := hide hjs
      obtain ⟨L, hL⟩ : ∃ L, L = kmap (fun (_ : List UInt8) k => Value.pointer (some ⟨p k, 0, none⟩)) q.ents := ⟨_, rfl⟩
      rw [← hL] at hsm hkeys
      have hown := hsm.own
      have hhas : has (dOf L) (.string nm) = true := by
        have h1 := kget_mem g7
        have h2 : (nm, Value.pointer (some ⟨p j, 0, none⟩)) ∈ L := by
          rw [hL]
          exact List.mem_map.2 ⟨_, h1, rfl⟩
        unfold dOf
        rw [has_eq, List.any_eq_true]
        exact ⟨_, List.mem_map.2 ⟨_, h2, rfl⟩, by simp [Lit.sameKey]⟩
      have Hfr := hide hfr
      have Hc7 := hide (show ∀ wx, Fr (fun _ => False) w wx → wx.cell? ⟨p j, 7, none⟩ = some (.pointer (some ⟨p nj.par, 0, none⟩)) from fun wx hx => by
        obtain ⟨_, _, _, hN⟩ := (HA.out.frame hx (fun _ _ _ e => e)).node hj
        rw [blk_cell hN.hb, hN.par hjd (Nat.pos_of_ne_zero hjl)]; rfl)
      clear hdep hj hjd hjl hts hfr hA hNj hNq hpv hdep2 hsm g5 g6 g7 g8 g1 g3 g4 hql hL heq
      obtain ⟨rb, hrb⟩ : ∃ rb, rb = wr.heap.size := ⟨_, rfl⟩
      have hrbw : w.heap.size ≤ rb := by rw [hrb]; exact Hfr.out.size
      go_wp2_with (first
        | (at_range; refine wpList_range_own _ rfl _ 87 rfl 9 84 (string_keyed Tryz.underlying9) Tryz.underlying87 _ mb _ _ rfl hown ?_; intro w0 hrg0 hg0 hs0)
        | fail)
      rw [← hrb] at hrg0
      rw [← hrb]
      clear hrb
      have H1 := hide (show PathIn nm s L mb rb w (size (dOf L)) (.string s) w0 from ⟨_, s, rfl, hrg0, by rw [hhas, if_pos rfl], Hfr.out.trans ((Fr.of_grown hg0).mono (fun _ _ e => by cases e))⟩)
      clear hrg0 hg0 hs0 hhas hown c2 c3 c6
      go_loopg [7] (size (dOf L)) (fun gi sv wx => PathIn nm s L mb rb w gi sv wx)
      case atStart => exact H1.out
      case round =>
        clear H1
        obtain ⟨left, s1, rfl, hrg, hs1, hfx⟩ := hrel
        have hs1len : s1.size ≤ 3333 := by
          have h9 := hnm32.out
          rw [← ba_len, hs1]
          split
          · rw [ba_len]; omega
          · simp only [List.length_cons, List.length_append, List.cons_append, ba_len]; omega
        have Hs1 := hide hs1
        have Hfx := hide hfx
        clear hs1 hfx
        go_wp2_with (first
          | (at_next; refine wpList_next_ranges _ rfl _ rfl 9 (string_keyed Tryz.underlying9) rV Value.string (fun v => v) (fun key kl hk => by obtain ⟨x, hx, _⟩ := str_inv Tryz.underlying9 hk; exact ⟨x, hx⟩) (fun v y _ => ⟨v, rfl⟩) mb rb _ _ _ _ rfl hrg ?_ ?_)
          | fail)
        · intro _ hl0
          have hs2 := Hs1.out
          rw [hl0, if_neg (by decide)] at hs2
          have hx := hide (hnext.out s1 wr hs2 Hfx.out)
          have c7x := Hc7.out wr Hfx.out
          clear hl0 hs2 hrg hnext hkeys hname hnmk hnm32 hxlen
          go_wp2_with fail
          go_roundg g
          case measure => omega
          case rel => exact hx.out
        · intro x c kl yd yp w1 cnt1 hkl hlk hR hat hrg1 hlt hg1 hsz1 hen
          obtain ⟨x', ex, rfl⟩ := str_inv Tryz.underlying9 hkl
          cases ex
          cases hR
          have hc : kget x.data.toList L = some c := by
            have h9 := hat .nil
            rw [dOf_at] at h9
            cases hq : kget x.data.toList L with
            | none => rw [hq] at h9; cases h9
            | some v => rw [hq] at h9; cases h9; rfl
          obtain ⟨k', rfl, hks', hkq⟩ := hkeys.out _ _ hc
          have hx32 := hxlen.out _ _ hkq
          rw [ba_len] at hx32
          have hf1 : Fr (fun _ => False) w w1 := Hfx.out.trans' (Fr.of_grown hg1) (fun i hi e => by cases e; omega)
          have Hlt := hide hlt
          have Hcmp := hide (show (∃ n', σ.nd k' = some n') from Option.isSome_iff_exists.1 hks')
          by_cases he : k' = j
          · have hcmp := ptr_eql w1 (p j)
            have hxn := hname.out _ (he ▸ hkq)
            have hpe : p k' = p j := by rw [he]
            have hs2 := Hs1.out
            rw [← hxn, hlk, if_pos rfl] at hs2
            have hr := hide (show PathIn nm s L mb rb w cnt1 (.string (((⟨#[47]⟩ : ByteArray) ++ x) ++ s1)) w1 from ⟨_, _, rfl, hrg1, by
              rw [ba_append, ba_append, hs2, hxn, if_neg (by simp [Lit.sameKey])]
              rfl, hf1⟩)
            clear hkl hlk hat hrg1 hlt hg1 hsz1 hc hkq hks' hf1 hrg hnext hkeys hname hnmk hnm32 hxlen hxn hs2 he
            rw [hpe] at hen
            rw [hpe]
            go_wp2_with fail
            go_roundg cnt1
            case measure => exact Hlt.out
            case rel => exact hr.out
          · have hpn : ¬ p k' = p j := fun e => he (Hinj.out k' j hks' Hjs.out e)
            obtain ⟨n', hn'⟩ := Hcmp.out
            obtain ⟨_, _, _, hN'⟩ := (HA.out.frame hf1 (fun _ _ _ e => e)).node hn'
            obtain ⟨nj', hnj'⟩ := Option.isSome_iff_exists.1 Hjs.out
            obtain ⟨_, _, _, hNj'⟩ := (HA.out.frame hf1 (fun _ _ _ e => e)).node hnj'
            have hcmp := ptr_eql_other hpn hN'.hb hNj'.hb
            clear hN' hNj' hn' hnj'
            have hxn : (Lit.string nm).sameKey (.string x.data.toList) = false := by
              cases hq : (Lit.string nm).sameKey (.string x.data.toList) with
              | false => rfl
              | true =>
                have e9 : nm = x.data.toList := by simpa [Lit.sameKey] using hq
                have := hnmk.out
                rw [e9, hkq] at this
                cases this
                exact absurd rfl he
            have hr := hide (show PathIn nm s L mb rb w cnt1 (.string s1) w1 from ⟨_, _, rfl, hrg1, by rw [hxn]; simpa using Hs1.out, hf1⟩)
            clear hkl hlk hat hrg1 hlt hg1 hsz1 hc hkq hks' hf1 hrg hnext hkeys hname hnmk hnm32 hxlen hxn he
            go_wp2_with fail
            go_roundg cnt1
            case measure => exact Hlt.out
            case rel => exact hr.out
end Go.Proofs.YtffekmjoenppaaaGreatDoor
