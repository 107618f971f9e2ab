/- What is moved, in memory: the entry away, the entry there, the parent. Conditions: the lemmas' own premises. -/
import Derived.Test.YtlhmmiolnbgloaaGreatDoorFilesKeepB
import Derived.Test.YtlhmmiolnbgloaaGreatDoorFilesB
import Derived.LaidEqlPtr
import Derived.Lib.Builder
import Derived.Test.YtlhmmiolnbgloaaGreatDoorFilesLink
import Derived.Deep.CutBlock
import Derived.Deep.DeepCutAuto
import Derived.Test.YtlhmmiolnbgloaaGreatDoorFilesAsk
import Derived.Maps.RangeWalk
import Derived.StringKeys
import Derived.Deep.LoopGhost
import Derived.Test.YtlhmmiolnbgloaaGreatDoorGlobP
import Derived.Test.YtlhmmiolnbgloaaGreatDoorFilesS
namespace Go.Proofs.YtlhmmiolnbgloaaGreatDoor
open Go.RowKit

/-- Another directory above. -/
theorem FilesAt.parent {w : World} {f : Nat} {σ : FSt} {S : Nat → Prop} {p : Nat → Nat} (h : FilesAt w f σ S p) {i b : Nat} {n : Nd} (hn : σ.nd i = some n) (hlive : Live (σ.put i (some { n with par := b }))) :
    (w.frozen? ⟨p i, 7, none⟩ = false ∧ ∃ v, w.cell? ⟨p i, 7, none⟩ = some v) ∧ FilesAt (w.setCell ⟨p i, 7, none⟩ (.pointer (some ⟨p b, 0, none⟩))) f (σ.put i (some { n with par := b })) S p ∧ Fr S w (w.setCell ⟨p i, 7, none⟩ (.pointer (some ⟨p b, 0, none⟩))) := by
  obtain ⟨dv, ev, pv, lv, hF⟩ := h
  have hN := hF.nd i n hn
  obtain ⟨w', hw'⟩ : ∃ w', w' = w.setCell ⟨p i, 7, none⟩ (.pointer (some ⟨p b, 0, none⟩)) := ⟨_, rfl⟩
  have hf : Fr (fun k => k = p i) w w' := by rw [hw']; exact frSet _ _ _ _
  have hb : w'.heap[p i]? = some (.cells #[.int .i64 i, .int .i64 (if n.d then 2 else 1), .int .i64 n.mode, .int .i64 n.links, .int .i64 n.holds, dv i, ev i, .pointer (some ⟨p b, 0, none⟩)] 65 (0, 0)) := by rw [hw', blk_set hN.hb]; rfl
  rw [← hw']
  refine ⟨⟨blk_frozen hN.hb 7, _, by rw [blk_cell hN.hb]; rfl⟩, ⟨_, _, _, _, hF.changed hf hn (fun k e => .inr (.inl e)) ?_ ⟨hb, ?_, fun hd => ?_, fun hd => hN.file hd, fun hd hl => rfl, ⟨_, rfl⟩, hN.md⟩ (fun g e => .inl e) (fun m e => e) hlive⟩, hf.mono (fun k _ e => e ▸ hF.ownn i (by rw [hn]; rfl))⟩
  · rw [same_byts hn (n' := { n with par := b }) rfl]
    exact hf.get hF.hb (fun e => cells_ne hF.hb hN.hb (by decide) e)
  · refine hN.data.frame hf (fun g e e2 => ?_)
    obtain ⟨c, hc⟩ := hN.data.blk e
    exact cells_ne hc (e2 ▸ hN.hb) (by decide) rfl
  · obtain ⟨a1, m, a2, a3⟩ := hN.dir hd
    refine ⟨a1, m, a2, a3.frame hf (fun e => ?_)⟩
    obtain ⟨es, clock, hm, _⟩ := a3.own
    rw [e, hN.hb] at hm; cases hm
theorem SMapAt.not_cells {P : Program} {k : TypeId} {w : World} {b : Nat} {L : KL} (h : SMapAt P k w b L) {q : Nat} {c : Array Value} {t : TypeId} {z : Nat × Nat} (hq : w.heap[q]? = some (.cells c t z)) : ¬ q = b := by
  rintro rfl
  obtain ⟨⟨es, clock, hm, _⟩, _⟩ := h
  rw [hq] at hm
  cases hm
/-- The two stores of a move, and the third. -/
theorem carry_steps {w : World} {f : Nat} {τ : FSt} {S : Nat → Prop} {p : Nat → Nat} (h : FilesAt w f τ S p) (hcap : CapB τ) {a b k : Nat} {n m nk : Nd} {nm1 nm2 : ByteArray} (h1 : nm1.size ≤ 32) (h2 : nm2.size ≤ 32)
    (ha : τ.nd a = some n) (had : n.d = true) (hk : τ.nd k = some nk) (hb : τ.nd b = some m) (hbd : m.d = true) (hL1 : Live (cutS τ a nm1.data.toList)) (hL2 : Live (linkS (cutS τ a nm1.data.toList) b nm2.data.toList k)) (hL3 : Live (carryS τ a nm1.data.toList b nm2.data.toList k)) :
    ∃ ma wD mb wU, w.cell? ⟨p a, 6, none⟩ = some (.map (some ma)) ∧ (∀ ty, (Builtin.delete_ #[62, 9] ty #[.map (some ma), .string nm1]).run Tryz.prog w = .ok (.tuple #[]) wD) ∧
      wD.drew.cell? ⟨p b, 6, none⟩ = some (.map (some mb)) ∧ (Instr.mapUpdate 62 (.map (some mb)) (.string nm2) (.pointer (some ⟨p k, 0, none⟩))).run Tryz.prog wD.drew = .ok () wU ∧
      (∀ (q : Nat) (c : Array Value) (t : TypeId), w.heap[q]? = some (.cells c t (0, 0)) → wD.heap[q]? = some (.cells c t (0, 0)) ∧ wU.heap[q]? = some (.cells c t (0, 0))) ∧ Fr S w wU ∧
      Calls Tryz.prog 22 #[.pointer (some ⟨p k, 0, none⟩)] wU (fun e w' => e = .returned (.bool nk.d) ∧ wU = w') ∧
      (nk.d = false → FilesAt wU f (carryS τ a nm1.data.toList b nm2.data.toList k) S p) ∧
      (nk.d = true → (wU.frozen? ⟨p k, 7, none⟩ = false ∧ ∃ v, wU.cell? ⟨p k, 7, none⟩ = some v) ∧ FilesAt (wU.setCell ⟨p k, 7, none⟩ (.pointer (some ⟨p b, 0, none⟩))) f (carryS τ a nm1.data.toList b nm2.data.toList k) S p ∧ Fr S wU (wU.setCell ⟨p k, 7, none⟩ (.pointer (some ⟨p b, 0, none⟩)))) := by
  obtain ⟨dv, ev, pv, lv, hF⟩ := h
  have hN := hF.nd a n ha
  obtain ⟨-, ma, hma, hsm⟩ := hN.dir had
  obtain ⟨wD, hdel, hsm2, hf2⟩ := hsm.delete (t := 62) Tryz.underlying9 Tryz.underlying62 nm1 (by unfold maxLen; omega) 0
  rw [kdel_kmap] at hsm2
  have hA2 : FilesAt wD f (cutS τ a nm1.data.toList) S p := hF.ented ha had hma (kdel nm1.data.toList) hf2 hsm2 hL1
  have hSa : S ma := hF.owne a ma (by rw [ha]; rfl) hma
  have hcD : ∀ (q : Nat) (c : Array Value) (t : TypeId), w.heap[q]? = some (.cells c t (0, 0)) → wD.heap[q]? = some (.cells c t (0, 0)) := fun q c t hq => hf2.get hq (hsm.not_cells hq)
  obtain ⟨m1, hb1, md, -⟩ := cutS_ents (x := nm1.data.toList) ha hb
  obtain ⟨nk1, hk1, kd, -⟩ := cutS_ents (x := nm1.data.toList) ha hk
  have hcap2 := hcap.cut ha nm1.data.toList
  obtain ⟨dv2, ev2, pv2, lv2, hF2⟩ := hA2.frame ((Fr.refl (fun _ => False) wD).drew) (fun _ _ _ e => e)
  have hN2 := hF2.nd b m1 hb1
  obtain ⟨-, mb, hmb, hsm3⟩ := hN2.dir (md.trans hbd)
  have hents := (hcap2 b m1 hb1).2.2
  obtain ⟨wU, hup, hsm4, hf4⟩ := hsm3.update (t := 62) Tryz.underlying9 Tryz.underlying62 (by rw [kmap_length]; unfold maxLen; omega) nm2 (by unfold maxLen; omega) (.pointer (some ⟨p k, 0, none⟩))
  rw [kput_kmap (fun (_ : List UInt8) k => Value.pointer (some ⟨p k, 0, none⟩)) nm2.data.toList k m1.ents] at hsm4
  have hA4 : FilesAt wU f (linkS (cutS τ a nm1.data.toList) b nm2.data.toList k) S p := hF2.ented hb1 (md.trans hbd) hmb (kput nm2.data.toList k) hf4 hsm4 hL2
  have hSb : S mb := hF2.owne b mb (by rw [hb1]; rfl) hmb
  obtain ⟨nk2, hk2, kd2, -⟩ : ∃ nk2, (linkS (cutS τ a nm1.data.toList) b nm2.data.toList k).nd k = some nk2 ∧ nk2.d = nk1.d ∧ True := by
    unfold linkS
    rw [entS_some hb1, put_nd hb1]
    by_cases e : k = b
    · rw [e, hb1] at hk1
      have e3 : m1 = nk1 := Option.some.inj hk1
      exact ⟨{ m1 with ents := kput nm2.data.toList k m1.ents }, by rw [if_pos e], by rw [← e3], trivial⟩
    · exact ⟨nk1, by rw [if_neg e]; exact hk1, rfl, trivial⟩
  have hd2 : nk2.d = nk.d := kd2.trans kd
  obtain ⟨dk, ek, pk, hNk⟩ := hA4.node hk2
  have hdir := dir_any wU p (p k) k nk2 dk ek pk hNk
  rw [hd2] at hdir
  have hdS : dirS (linkS (cutS τ a nm1.data.toList) b nm2.data.toList k) k = nk.d := by unfold dirS; rw [hk2]; exact hd2
  refine ⟨ma, wD, mb, wU, by rw [blk_cell hN.hb, hma]; rfl, fun ty => hdel, by rw [blk_cell hN2.hb, hmb]; rfl, hup, fun q c t hq => ⟨hcD q c t hq, hf4.get (blk_drew (hcD q c t hq)) (hsm3.not_cells (blk_drew (hcD q c t hq)))⟩,
    ((hf2.mono (fun q _ e => e ▸ hSa)).drew).trans (hf4.mono (fun q _ e => e ▸ hSb)), hdir, fun e => ?_, fun e => ?_⟩
  · have : carryS τ a nm1.data.toList b nm2.data.toList k = linkS (cutS τ a nm1.data.toList) b nm2.data.toList k := by
      unfold carryS parS
      rw [if_neg (by rw [hdS, e]; decide)]
    rw [this]
    exact hA4
  · have e2 : carryS τ a nm1.data.toList b nm2.data.toList k = (linkS (cutS τ a nm1.data.toList) b nm2.data.toList k).put k (some { nk2 with par := b }) := by
      unfold carryS parS
      rw [if_pos (by rw [hdS, e]), relS_some hk2]
    rw [e2] at hL3 ⊢
    exact hA4.parent hk2 hL3
end Go.Proofs.YtlhmmiolnbgloaaGreatDoor

/- Pointers to inodes held against each other. Conditions: the lemmas' own premises. -/
namespace Go.Proofs.YtlhmmiolnbgloaaGreatDoor
open Go.RowKit

theorem node_info : ∃ j, Tryz.prog.info? 65 = some j ∧ j.size ≠ 0 := by
  have h : (Tryz.prog.info? 65).any (fun j => j.size != 0) = true := by kernel_rfl
  cases hj : Tryz.prog.info? 65 with
  | none => rw [hj] at h; cases h
  | some j => rw [hj] at h; exact ⟨j, rfl, by simpa using h⟩
theorem ptr_eql (w : World) (b : Nat) : (binOp .eql 56 (.pointer (some ⟨b, 0, none⟩)) (.pointer (some ⟨b, 0, none⟩))).run Tryz.prog w = .ok (.bool true) w := by
  obtain ⟨j, hj, _⟩ := node_info
  exact run_eql_ptr_same w _ Tryz.underlying56 hj
theorem ptr_neq (w : World) (b : Nat) : (binOp .neq 56 (.pointer (some ⟨b, 0, none⟩)) (.pointer (some ⟨b, 0, none⟩))).run Tryz.prog w = .ok (.bool false) w := by
  obtain ⟨j, hj, _⟩ := node_info
  exact Lib.run_neq_ptr_same w _ Tryz.underlying56 hj
theorem ptr_eql_other {w : World} {a b : Nat} {ca cb : Array Value} {ta tb : TypeId} (hne : ¬ a = b) (ha : w.heap[a]? = some (.cells ca ta (0, 0))) (hb : w.heap[b]? = some (.cells cb tb (0, 0))) :
    (binOp .eql 56 (.pointer (some ⟨a, 0, none⟩)) (.pointer (some ⟨b, 0, none⟩))).run Tryz.prog w = .ok (.bool false) w := by
  obtain ⟨j, hj, hz⟩ := node_info
  exact run_eql_ptr_other w Tryz.underlying56 hj hz (fun e => hne (congrArg Addr.block e)) ha hb
theorem ptr_neq_other {w : World} {a b : Nat} {ca cb : Array Value} {ta tb : TypeId} (hne : ¬ a = b) (ha : w.heap[a]? = some (.cells ca ta (0, 0))) (hb : w.heap[b]? = some (.cells cb tb (0, 0))) :
    (binOp .neq 56 (.pointer (some ⟨a, 0, none⟩)) (.pointer (some ⟨b, 0, none⟩))).run Tryz.prog w = .ok (.bool true) w := by
  obtain ⟨j, hj, hsz⟩ := node_info
  have hne2 : (⟨a, 0, none⟩ : Addr) ≠ ⟨b, 0, none⟩ := fun e => hne (congrArg Addr.block e)
  have h : ∀ d : Nat, (Op.equalIn (d + 1) 56 (.pointer (some ⟨a, 0, none⟩)) (.pointer (some ⟨b, 0, none⟩))).run Tryz.prog w = .ok false w := fun d => by
    simp [Op.equalIn, run_underlying Tryz.underlying56, sizeOf, typeInfo, hj, hsz, run_sameAddr_other w hne2 ha hb]
  simp only [binOp]
  simp [Op.equal, Op.maxDepth, h 9999]
theorem ptr_eql_none (w : World) (b : Nat) : (binOp .eql 56 (.pointer none) (.pointer (some ⟨b, 0, none⟩))).run Tryz.prog w = .ok (.bool false) w := by
  obtain ⟨j, hj, _⟩ := node_info
  have h : ∀ d : Nat, (Op.equalIn (d + 1) 56 (.pointer none) (.pointer (some ⟨b, 0, none⟩))).run Tryz.prog w = .ok false w := fun d => by
    simp [Op.equalIn, run_underlying Tryz.underlying56, sizeOf, typeInfo, hj]
  simp only [binOp]
  simp [Op.equal, Op.maxDepth, h 9999]
end Go.Proofs.YtlhmmiolnbgloaaGreatDoor

/- files.within. Conditions: the contract's own premises. -/
namespace Go.Proofs.YtlhmmiolnbgloaaGreatDoor
open Go.RowKit

def WinRel (σ : FSt) (p : Nat → Nat) (k b : Nat) (w : World) (gk : Nat) (i : Value) (wr : World) : Prop :=
  ∃ j n, i = .pointer (some ⟨p j, 0, none⟩) ∧ Dep σ 0 1 j gk ∧ σ.nd j = some n ∧ n.d = true ∧ n.links ≠ 0 ∧ (Under σ k b ↔ Under σ k j) ∧ w = wr
def WinPost (σ : FSt) (k b : Nat) (w : World) (e : Ending) (w' : World) : Prop := e = .returned (.bool (underB σ k b)) ∧ w = w'
end Go.Proofs.YtlhmmiolnbgloaaGreatDoor

/- files.FS.Rename. Conditions: the contract's own premises. -/
namespace Go.Proofs.YtlhmmiolnbgloaaGreatDoor
open Go.RowKit

/-- What the last stage of Rename wants: two stores, a third. -/
structure RenFin (w : World) (bp bq : Nat) (p : Nat → Nat) (a b k : Nat) (D : Bool) (nm1 nm2 : ByteArray) (sl1 sl2 : Bool) (Post : World → Prop) (ma mb : Nat) (wD wU : World) : Prop where
  c6 : w.cell? ⟨p a, 6, none⟩ = some (.map (some ma))
  del : ∀ ty, (Builtin.delete_ #[62, 9] ty #[.map (some ma), .string nm1]).run Tryz.prog w = .ok (.tuple #[]) wD
  d6 : wD.drew.cell? ⟨p b, 6, none⟩ = some (.map (some mb))
  upd : (Instr.mapUpdate 62 (.map (some mb)) (.string nm2) (.pointer (some ⟨p k, 0, none⟩))).run Tryz.prog wD.drew = .ok () wU
  hbp : w.heap[bp]? = some (.cells #[.pointer (some ⟨p a, 0, none⟩), .string nm1, .bool sl1] 103 (0, 0))
  hbq : wD.heap[bq]? = some (.cells #[.pointer (some ⟨p b, 0, none⟩), .string nm2, .bool sl2] 103 (0, 0))
  hbq2 : wU.heap[bq]? = some (.cells #[.pointer (some ⟨p b, 0, none⟩), .string nm2, .bool sl2] 103 (0, 0))
  dir : Calls Tryz.prog 22 #[.pointer (some ⟨p k, 0, none⟩)] wU (fun e w' => e = .returned (.bool D) ∧ wU = w')
  fin : D = false → Post wU
  frz : D = true → wU.frozen? ⟨p k, 7, none⟩ = false ∧ ∃ v, wU.cell? ⟨p k, 7, none⟩ = some v
  fin2 : D = true → Post (wU.setCell ⟨p k, 7, none⟩ (.pointer (some ⟨p b, 0, none⟩)))
theorem ren_fin {w0 w : World} {f : Nat} {τ : FSt} {S S2 : Nat → Prop} {p : Nat → Nat} (h : FilesAt w f τ S2 p) (hS : ∀ k, S2 k → S k) (hf : Fr S w0 w) (hcap : CapB τ) {a b k : Nat} {n m nk : Nd} {nm1 nm2 : ByteArray} {sl1 sl2 : Bool} (h1 : nm1.size ≤ 32) (h2 : nm2.size ≤ 32) {bp bq : Nat}
    (ha : τ.nd a = some n) (had : n.d = true) (hx : kget nm1.data.toList n.ents = some k) (hk : τ.nd k = some nk) (hb : τ.nd b = some m) (hbd : m.d = true) (hbl : m.links ≠ 0) (hy : kget nm2.data.toList m.ents = none) (hI : Inv τ 0) (hu : nk.d = true → ¬ Under τ k b)
    (hbp : w.heap[bp]? = some (.cells #[.pointer (some ⟨p a, 0, none⟩), .string nm1, .bool sl1] 103 (0, 0))) (hbq : w.heap[bq]? = some (.cells #[.pointer (some ⟨p b, 0, none⟩), .string nm2, .bool sl2] 103 (0, 0)))
    {Post : World → Prop} (hP : ∀ w', FilesAt w' f (carryS τ a nm1.data.toList b nm2.data.toList k) S p → Fr S w0 w' → Post w') :
    ∃ ma mb wD wU, RenFin w bp bq p a b k nk.d nm1 nm2 sl1 sl2 Post ma mb wD wU := by
  obtain ⟨-, h3, h4⟩ := hI.carry h.live ha hx hk hb hbd hbl hy (by rw [ba_len]; exact h2) hu
  obtain ⟨ma, wD, mb, wU, g1, g2, g3, g4, g5, g6, g7, g8, g9⟩ := carry_steps h hcap h1 h2 ha had hk hb hbd (h.live.cut ha _) h4 h3
  exact ⟨ma, mb, wD, wU, g1, g2, g3, g4, hbp, (g5 _ _ _ hbq).1, (g5 _ _ _ hbq).2, g7, fun e => hP _ ((g8 e).mono hS) (hf.trans (g6.mono fun _ _ e => hS _ e)), fun e => (g9 e).1, fun e => hP _ ((g9 e).2.1.mono hS) ((hf.trans (g6.mono fun _ _ e => hS _ e)).trans ((g9 e).2.2.mono fun _ _ e => hS _ e))⟩
end Go.Proofs.YtlhmmiolnbgloaaGreatDoor

/- The tree of files as plain data: the way to a directory, as a text. No program in sight; no condition. -/
namespace Go.Proofs.YtlhmmiolnbgloaaGreatDoor
open Go.RowKit

/-- The text that leads to a directory (empty: the root). -/
inductive Up (σ : FSt) : Nat → List UInt8 → Prop
  | root : Up σ 1 []
  | step {i : Nat} {n m : Nd} {nm s : List UInt8} : i ≠ 1 → σ.nd i = some n → n.d = true → n.links ≠ 0 → σ.nd n.par = some m → m.d = true → kget nm m.ents = some i → Up σ n.par s → Up σ i (s ++ slashB :: nm)
/-- What is asked for is told. -/
def pathE (σ : FSt) (i : Int) : Int := match σ.ndI i with | none => 9 | some n => if n.d = false then 20 else if i ≠ 1 ∧ n.links = 0 then 2 else 0
open Classical in
noncomputable def wayT (σ : FSt) (i : Nat) : List UInt8 := if h : ∃ s, Up σ i s then Classical.choose h else []
def slashed (s : List UInt8) : List UInt8 := if s = [] then [slashB] else s
noncomputable def pathR (σ : FSt) (i : Int) : List UInt8 := if pathE σ i = 0 then slashed (wayT σ i.toNat) else []
theorem Inv.links_le {σ : FSt} (h : Inv σ 0) {i : Nat} {n : Nd} (hi : σ.nd i = some n) (hd : n.d = true) (h1 : i ≠ 1) : refs σ i ≤ 1 := by
  have h2 := h.cnt i n hi h1
  rw [if_neg (nd_pos hi)] at h2
  have := h.one i n hi hd
  omega
/-- A directory's name is one. -/
theorem Inv.name_one {σ : FSt} (h : Inv σ 0) {i a : Nat} {n m : Nd} (hi : σ.nd i = some n) (hd : n.d = true) (h1 : i ≠ 1) (ha : σ.nd a = some m) {s t : List UInt8} (hs : kget s m.ents = some i) (ht : kget t m.ents = some i) : s = t :=
  (refs_unique (h.links_le hi hd h1) ha ha (h.srt a m ha) hs ht).2
theorem Up.det {σ : FSt} (h : Inv σ 0) : ∀ {i : Nat} {s : List UInt8}, Up σ i s → ∀ {t : List UInt8}, Up σ i t → s = t
  | _, _, .root, _, .root => rfl
  | _, _, .root, _, .step h1 _ _ _ _ _ _ _ => absurd rfl h1
  | _, _, .step h1 _ _ _ _ _ _ _, _, .root => absurd rfl h1
  | _, _, .step h1 h2 h3 h4 h5 h6 h7 h8, _, .step g1 g2 g3 g4 g5 g6 g7 g8 => by
    rw [h2] at g2
    cases g2
    rw [h5] at g5
    cases g5
    rw [h.name_one h2 h3 h1 h5 h7 g7, h8.det h g8]
theorem Up.len {σ : FSt} (hL : Live σ) : ∀ {i : Nat} {s : List UInt8}, Up σ i s → ∀ {d : Nat}, Dep σ 0 1 i d → s.length ≤ 33 * d
  | _, _, .root, _, _ => Nat.zero_le _
  | _, _, .step h1 h2 h3 h4 h5 h6 h7 h8, d, hd => by
    obtain ⟨k, rfl, hk⟩ := hd.go_up h2 h1
    have h9 := h8.len hL hk
    have h10 := hL.names _ _ h5 _ (kget_mem h7)
    simp only [List.length_append, List.length_cons] at *
    omega
theorem Up.more {σ : FSt} (h : Inv σ 0) : ∀ {d i : Nat}, Dep σ 0 1 i d → (σ.nd i).isSome = true → ∃ s, Up σ i s
  | _, _, .base _, _ => ⟨[], .root⟩
  | _, _, .up h1 h2 h3 h4 h5 h6, _ => by
    obtain ⟨m, nm, a1, a2, a3, a4⟩ := h.above h3 h4 h5 h1 h2
    obtain ⟨s, hs⟩ := Up.more h h6 (by rw [a1]; rfl)
    exact ⟨_, .step h1 h3 h4 h5 a1 a2 a4 hs⟩
theorem Inv.path {σ : FSt} (h : Inv σ 0) {i : Nat} {n : Nd} (hn : σ.nd i = some n) (hd : n.d = true) (hl : n.links ≠ 0) : ∃ s, Up σ i s := by
  obtain ⟨k, hk⟩ := h.to_root hn hd hl
  exact Up.more h hk (by rw [hn]; rfl)
theorem Up.way {σ : FSt} (h : Inv σ 0) {i : Nat} {s : List UInt8} (hs : Up σ i s) : wayT σ i = s := by
  have h1 : ∃ s, Up σ i s := ⟨s, hs⟩
  unfold wayT
  rw [dif_pos h1]
  exact (Classical.choose_spec h1).det h hs
end Go.Proofs.YtlhmmiolnbgloaaGreatDoor

/- files.FS.Path. Conditions: the contract's own premises. -/
namespace Go.Proofs.YtlhmmiolnbgloaaGreatDoor
open Go.RowKit Go.Maps

theorem str_inv {P : Program} {k : TypeId} (hk : P.underlying k = some .string) {key : Value} {kl : Lit} (h : keyOf P k key = some kl) : ∃ s : ByteArray, key = .string s ∧ kl = .string s.data.toList := by
  have h' := h
  cases key <;> simp [keyOf, hk, mapKey] at h'
  rename_i s
  exact ⟨s, rfl, h'.2.symm⟩
def PathPost (σ : FSt) (i : Int) (w : World) (e : Ending) (w' : World) : Prop := e = .returned (.tuple #[.string ⟨(pathR σ i).toArray⟩, .int .i64 (pathE σ i)]) ∧ Fr (fun _ => False) w w'
def PathRel (σ : FSt) (p : Nat → Nat) (full : List UInt8) (w : World) (gk : Nat) (nv sv : Value) (wr : World) : Prop :=
  ∃ (j : Nat) (n : Nd) (t : List UInt8) (s : ByteArray), nv = .pointer (some ⟨p j, 0, none⟩) ∧ sv = .string s ∧ Dep σ 0 1 j gk ∧ σ.nd j = some n ∧ n.d = true ∧ n.links ≠ 0 ∧ Up σ j t ∧ t ++ s.data.toList = full ∧ Fr (fun _ => False) w wr
def PathIn (nm : List UInt8) (s0 : ByteArray) (L : KL) (mb r : Nat) (w : World) (gk : Nat) (sv : Value) (wx : World) : Prop :=
  ∃ (left : Lit → Bool) (s : ByteArray), sv = .string s ∧ wx.ranges Tryz.prog 9 rV mb r L.length (dOf L) left gk ∧ s.data.toList = (if left (.string nm) = true then s0.data.toList else slashB :: nm ++ s0.data.toList) ∧ Fr (fun _ => False) w wx
end Go.Proofs.YtlhmmiolnbgloaaGreatDoor

/- shyardlaw08.ask at a tree of files. Conditions: the contract's own premises. -/
namespace Go.Proofs.YtlhmmiolnbgloaaGreatDoor
open Go.RowKit

abbrev CallQ.p (c : CallQ) : List UInt8 := c.path.data.toList
abbrev CallQ.o (c : CallQ) : List UInt8 := c.other.data.toList
/-- What a call leaves. -/
noncomputable def askS (σ : FSt) (c : CallQ) : FSt :=
  if c.what = 1 then (createR σ c.n c.p c.m).2.2 else if c.what = 2 then (makeR σ c.n c.p true c.m).2 else if c.what = 3 then (unlinkR σ c.n c.p).2 else if c.what = 4 then (rmdirR σ c.n c.p).2
  else if c.what = 5 then (linkR σ c.n c.p c.o).2 else if c.what = 6 then (renR σ c.n c.p c.o).2 else if c.what = 8 then (writeR σ c.n c.m c.o).2.2 else if c.what = 9 then (truncR σ c.n c.m).2
  else if c.what = 10 then (chmodR σ c.n c.m).2 else if c.what = 13 then (holdR σ c.n).2 else if c.what = 14 then (dropR σ c.n).2 else σ
/-- What it answers. -/
noncomputable def askA (σ : FSt) (c : CallQ) : AnsQ :=
  if c.what = 0 then { errA (walkE σ c.n c.p).1 with n := if (walkE σ c.n c.p).1 = 0 then ((walkE σ c.n c.p).2 : Int) else 0 }
  else if c.what = 1 then { errA (createR σ c.n c.p c.m).2.1 with n := (createR σ c.n c.p c.m).1 }
  else if c.what = 2 then errA (makeR σ c.n c.p true c.m).1
  else if c.what = 3 then errA (unlinkR σ c.n c.p).1
  else if c.what = 4 then errA (rmdirR σ c.n c.p).1
  else if c.what = 5 then errA (linkR σ c.n c.p c.o).1
  else if c.what = 6 then errA (renR σ c.n c.p c.o).1
  else if c.what = 7 then { errA (readE σ c.n c.m c.k) with s := ⟨(readB σ c.n c.m c.k).toArray⟩ }
  else if c.what = 8 then { errA (writeR σ c.n c.m c.o).2.1 with n := (writeR σ c.n c.m c.o).1 }
  else if c.what = 9 then errA (truncR σ c.n c.m).1
  else if c.what = 10 then errA (chmodR σ c.n c.m).1
  else if c.what = 11 then { errA (statE σ c.n) with st := statT σ c.n }
  else if c.what = 12 then { errA (listE σ c.n) with list := ⟨(joinL (listL σ c.n)).toArray⟩ }
  else if c.what = 13 then errA (holdR σ c.n).1
  else if c.what = 14 then errA (dropR σ c.n).1
  else if c.what = 15 then { errA (pathE σ c.n) with s := ⟨(pathR σ c.n).toArray⟩ }
  else errA 0
theorem Good.ask {σ : FSt} {k : Nat} (h : Good σ k) (c : CallQ) : Kept (askS σ c) (k + 2) := by
  have up : ∀ {τ : FSt}, Kept τ (k + 1) → Kept τ (k + 2) := fun h => h.mono (Nat.le_succ _)
  unfold askS
  split
  · exact up (h.make c.n c.p false c.m)
  split
  · exact up (h.make c.n c.p true c.m)
  split
  · exact up (h.unlink c.n c.p)
  split
  · exact up (h.rmdir c.n c.p)
  split
  · exact h.link c.n c.p c.o
  split
  · exact up (h.ren c.n c.p c.o)
  split
  · exact up (h.write c.n c.m c.o)
  split
  · exact up (h.trunc c.n c.m)
  split
  · exact up (h.chmod c.n c.m)
  split
  · exact up (h.hold c.n)
  split
  · exact up (h.drop c.n)
  · exact up h.kept
def AskL (σ : FSt) (c : CallQ) (f : Nat) (S : Nat → Prop) (w : World) (a : AnsQ) (w' : World) : Prop := a = askA σ c ∧ (∃ p', FilesAt w' f (askS σ c) S p') ∧ Fr S w w'
theorem list_sizes {σ : FSt} (hL : Live σ) {k : Nat} (hc : Caps σ k) (i : Int) : (listL σ i).length ≤ k ∧ ∀ x ∈ listL σ i, x.size ≤ 32 := by
  unfold listL
  cases hn : σ.ndI i with
  | none => exact ⟨Nat.zero_le _, fun x hx => by cases hx⟩
  | some n =>
    obtain ⟨j, rfl, hj⟩ := ndI_some hn
    simp only
    split
    · unfold namesB
      refine ⟨by rw [List.length_map]; exact (hc j n hj).2.2, fun x hx => ?_⟩
      obtain ⟨q, hq, rfl⟩ := List.mem_map.1 hx
      exact hL.names j n hj q hq
    · exact ⟨Nat.zero_le _, fun x hx => by cases hx⟩
theorem AskL.good {σ : FSt} {c : CallQ} {f : Nat} {S : Nat → Prop} {w : World} {a : AnsQ} {w' : World} (h : AskL σ c f S w a w') {k : Nat} (hG : Good σ k) : Good (askS σ c) (k + 2) := by
  obtain ⟨_, ⟨p', hp⟩, _⟩ := h
  exact (hG.ask c).good hp.live
end Go.Proofs.YtlhmmiolnbgloaaGreatDoor
