/- The tree of files in memory behind a change: an inode changed; an inode more. Conditions: the laws' own premises. -/
import Derived.Test.YtdnbfhcbcdodmaaGreatDoorFilesJ
import Derived.Laws.IdiomStrings
import Derived.Lib.BufferWrite
namespace Go.Proofs.YtdnbfhcbcdodmaaGreatDoor
open Go.RowKit

def upd {α : Type} (g : Nat → α) (i : Nat) (x : α) (j : Nat) : α := if j = i then x else g j
theorem upd_same {α : Type} (g : Nat → α) (i : Nat) (x : α) : upd g i x i = x := if_pos rfl
theorem upd_other {α : Type} {g : Nat → α} {i j : Nat} {x : α} (h : j ≠ i) : upd g i x j = g j := if_neg h
theorem FilesF.mono {w : World} {f : Nat} {σ : FSt} {S S' : Nat → Prop} {p : Nat → Nat} {dv ev pv : Nat → Value} {lv : Value} (h : FilesF w f σ S p dv ev pv lv) (hs : ∀ k, S k → S' k) : FilesF w f σ S' p dv ev pv lv :=
  { h with own := hs _ h.own, ownl := fun g e => hs _ (h.ownl g e), ownn := fun i e => hs _ (h.ownn i e), ownd := fun i g e e2 => hs _ (h.ownd i g e e2), owne := fun i m e e2 => hs _ (h.owne i m e e2), up := fun k e => hs _ (h.up k e) }
theorem FilesAt.mono {w : World} {f : Nat} {σ : FSt} {S S' : Nat → Prop} {p : Nat → Nat} (h : FilesAt w f σ S p) (hs : ∀ k, S k → S' k) : FilesAt w f σ S' p := by
  obtain ⟨_, _, _, _, h⟩ := h
  exact ⟨_, _, _, _, h.mono hs⟩
theorem ptrOf_isSome {o o' : Option Nd} (h : o.isSome = o'.isSome) (b : Nat) : ptrOf o b = ptrOf o' b := by cases o <;> cases o' <;> first | rfl | cases h
theorem slotV_put {p : Nat → Nat} {σ : FSt} {i : Nat} {n n' : Nd} (hn : σ.nd i = some n) : slotV p (σ.put i (some n')) = slotV p σ := by
  obtain ⟨h0, hl⟩ := FSt.nd_lt (show (σ.nd i).isSome = true by rw [hn]; rfl)
  rw [FSt.nd_at h0 (by omega)] at hn
  unfold slotV
  apply List.ext_getElem
  · simp [FSt.put_length]
  · intro k h1 h2
    rw [List.getElem_mapIdx, List.getElem_mapIdx]
    apply ptrOf_isSome
    unfold FSt.put
    rw [List.getElem_set]
    split
    · rename_i e; subst e; rw [hn]; rfl
    · rfl
/-- Which block holds a row of what. -/
theorem cells_ne {w : World} {a b ta tb : Nat} {ca cb : Array Value} {fa fb : Nat × Nat} (ha : w.heap[a]? = some (.cells ca ta fa)) (hb : w.heap[b]? = some (.cells cb tb fb)) (hne : ta ≠ tb) : a ≠ b := by
  rintro rfl
  rw [ha] at hb
  cases hb
  exact hne rfl
theorem FilesF.lv_blk {w : World} {f : Nat} {σ : FSt} {S : Nat → Prop} {p : Nat → Nat} {dv ev pv : Nat → Value} {lv : Value} (h : FilesF w f σ S p dv ev pv lv) {g : Nat} (hg : lv.ownBlock = some g) : ∃ c, w.heap[g]? = some (.cells c 111 (0, 0)) := by
  rcases h.hl.2 with ⟨h1, _⟩ | ⟨g', cap', cur, h1, _, hc, _⟩
  · rw [h1] at hg; cases hg
  · rw [h1] at hg
    have e' : g' = g := by simpa [Value.ownBlock] using hg
    subst e'
    exact ⟨_, hc⟩
theorem DataV.blk {w : World} {v : Value} {l : List UInt8} (h : DataV w v l) {g : Nat} (hg : v.ownBlock = some g) : ∃ c, w.heap[g]? = some (.cells c 5 (0, 0)) := by
  rcases h with ⟨rfl, _⟩ | ⟨g', cap, cur, rfl, hc, _⟩
  · cases hg
  · have e' : g' = g := by simpa [Value.ownBlock] using hg
    subst e'
    exact ⟨_, hc⟩
theorem NodeF.map_blk {w : World} {p : Nat → Nat} {b i : Nat} {n : Nd} {dv ev pv : Value} (h : NodeF w p b i n dv ev pv) {m : Nat} (he : ev = .map (some m)) : ∃ es clock, w.heap[m]? = some (.map es clock) := by
  cases hn : n.d with
  | true =>
    obtain ⟨_, m', h1, h2⟩ := h.dir hn
    rw [he] at h1
    cases h1
    obtain ⟨es, clock, hb, _⟩ := h2.own
    exact ⟨es, clock, hb⟩
  | false =>
    have := (h.file hn).1
    rw [he] at this
    cases this
/-- An inode changed. -/
theorem FilesF.changed {w w' : World} {f : Nat} {σ : FSt} {S : Nat → Prop} {p : Nat → Nat} {dv ev pv : Nat → Value} {lv : Value} (h : FilesF w f σ S p dv ev pv lv) {T : Nat → Prop} (hf : Fr T w w') {i : Nat} {n n' : Nd} (hn : σ.nd i = some n) {dv' ev' pv' : Value}
    (hT : ∀ k, T k → k = f ∨ k = p i ∨ (dv i).ownBlock = some k ∨ ev i = .map (some k))
    (hb : w'.heap[f]? = some (.cells #[lv, .int .i64 σ.cnt, .pointer (some ⟨p 1, 0, none⟩), .int .i64 (σ.put i (some n')).byts] 113 (0, 0)))
    (hnd : NodeF w' p (p i) i n' dv' ev' pv') (hdv : ∀ g, dv'.ownBlock = some g → (dv i).ownBlock = some g ∨ w.heap.size ≤ g) (hev : ∀ m, ev' = .map (some m) → ev i = .map (some m)) (hlive : Live (σ.put i (some n'))) :
    FilesF w' f (σ.put i (some n')) S p (upd dv i dv') (upd ev i ev') (upd pv i pv') lv := by
  have hs : (σ.nd i).isSome = true := by rw [hn]; rfl
  have hput := FSt.nd_put hs (some n')
  have hi := h.nd i n hn
  have back : ∀ j, ((σ.put i (some n')).nd j).isSome = true → (σ.nd j).isSome = true := fun j hj => by
    rw [hput] at hj
    split at hj
    · rename_i e; rw [e]; exact hs
    · exact hj
  have hcnt : (σ.put i (some n')).cnt = σ.cnt := by have := FSt.cnt_put hs (some n'); simp [one] at this; exact this
  have hTlv : ∀ g, lv.ownBlock = some g → ¬ T g := fun g e ht => by
    obtain ⟨c, hc⟩ := h.lv_blk e
    rcases hT g ht with rfl | rfl | e2 | e2
    · exact cells_ne hc h.hb (by decide) rfl
    · exact cells_ne hc hi.hb (by decide) rfl
    · obtain ⟨c2, hc2⟩ := hi.data.blk e2
      exact cells_ne hc hc2 (by decide) rfl
    · obtain ⟨es, clock, hm⟩ := hi.map_blk e2
      rw [hc] at hm; cases hm
  have hother : ∀ j m, σ.nd j = some m → j ≠ i → NodeF w' p (p j) j m (dv j) (ev j) (pv j) := fun j m hj hne => by
    have hnj := h.nd j m hj
    have hsj : (σ.nd j).isSome = true := by rw [hj]; rfl
    refine hnj.frame hf (fun ht => ?_) (fun g e ht => ?_) (fun mb e ht => ?_)
    · rcases hT _ ht with e2 | e2 | e2 | e2
      · exact cells_ne hnj.hb (e2 ▸ h.hb) (by decide) rfl
      · exact hne (h.inj j i hsj hs e2)
      · obtain ⟨c2, hc2⟩ := hi.data.blk e2
        exact cells_ne hnj.hb hc2 (by decide) rfl
      · obtain ⟨es, clock, hm⟩ := hi.map_blk e2
        rw [hnj.hb] at hm; cases hm
    · obtain ⟨c, hc⟩ := hnj.data.blk e
      rcases hT _ ht with e2 | e2 | e2 | e2
      · exact cells_ne hc (e2 ▸ h.hb) (by decide) rfl
      · exact cells_ne hc (e2 ▸ hi.hb) (by decide) rfl
      · exact hne (h.injd j i g hsj hs e e2)
      · obtain ⟨es, clock, hm⟩ := hi.map_blk e2
        rw [hc] at hm; cases hm
    · obtain ⟨es, clock, hm⟩ := hnj.map_blk e
      rcases hT _ ht with e2 | e2 | e2 | e2
      · rw [e2, h.hb] at hm; cases hm
      · rw [e2, hi.hb] at hm; cases hm
      · obtain ⟨c2, hc2⟩ := hi.data.blk e2
        rw [hc2] at hm; cases hm
      · exact hne (h.inje j i mb hsj hs e e2)
  refine ⟨by rw [hcnt]; exact hb, ?_, ?_, fun j k hj hk => h.inj j k (back j hj) (back k hk), ?_, ?_, h.own, h.ownl, fun j hj => h.ownn j (back j hj), ?_, ?_, fun k hk => h.up k (Nat.le_trans hf.size hk), hlive⟩
  · rw [FSt.put_length, slotV_put hn]
    exact own_frame h.hl hf hTlv
  · intro j m hj
    rw [hput] at hj
    by_cases e : j = i
    · rw [if_pos e] at hj
      cases hj
      subst e
      rw [upd_same, upd_same, upd_same]
      exact hnd
    · rw [if_neg e] at hj
      rw [upd_other e, upd_other e, upd_other e]
      exact hother j m hj e
  · intro j k g hj hk e1 e2
    have hj' := back j hj
    have hk' := back k hk
    have lt : ∀ a, (σ.nd a).isSome = true → (dv a).ownBlock = some g → g < w.heap.size := fun a ha e => by
      obtain ⟨m, hm⟩ := Option.isSome_iff_exists.1 ha
      exact (h.nd a m hm).data.lt e
    by_cases a1 : j = i <;> by_cases a2 : k = i
    · rw [a1, a2]
    · subst a1
      rw [upd_same] at e1
      rw [upd_other a2] at e2
      rcases hdv g e1 with e3 | e3
      · exact h.injd _ _ g hj' hk' e3 e2
      · have := lt k hk' e2; omega
    · subst a2
      rw [upd_same] at e2
      rw [upd_other a1] at e1
      rcases hdv g e2 with e3 | e3
      · exact h.injd _ _ g hj' hk' e1 e3
      · have := lt j hj' e1; omega
    · rw [upd_other a1] at e1
      rw [upd_other a2] at e2
      exact h.injd _ _ g hj' hk' e1 e2
  · intro j k m hj hk e1 e2
    have hj' := back j hj
    have hk' := back k hk
    have f1 : ev j = .map (some m) := by
      by_cases a1 : j = i
      · subst a1; rw [upd_same] at e1; exact hev m e1
      · rwa [upd_other a1] at e1
    have f2 : ev k = .map (some m) := by
      by_cases a1 : k = i
      · subst a1; rw [upd_same] at e2; exact hev m e2
      · rwa [upd_other a1] at e2
    exact h.inje j k m hj' hk' f1 f2
  · intro j g hj e1
    by_cases a1 : j = i
    · subst a1
      rw [upd_same] at e1
      rcases hdv g e1 with e3 | e3
      · exact h.ownd _ g hs e3
      · exact h.up g e3
    · rw [upd_other a1] at e1
      exact h.ownd j g (back j hj) e1
  · intro j m hj e1
    have f1 : ev j = .map (some m) := by
      by_cases a1 : j = i
      · subst a1; rw [upd_same] at e1; exact hev m e1
      · rwa [upd_other a1] at e1
    exact h.owne j m (back j hj) f1
end Go.Proofs.YtdnbfhcbcdodmaaGreatDoor

/- files.FS.file, size. Conditions: the contracts' own premises. -/
namespace Go.Proofs.YtdnbfhcbcdodmaaGreatDoor
open Go.RowKit

def fileE (σ : FSt) (i : Int) : Int := match σ.ndI i with | none => 9 | some n => if n.d then 21 else 0
def resize (l : List UInt8) (k : Nat) : List UInt8 := if k ≤ l.length then l.take k else l ++ List.replicate (k - l.length) 0
def sizeS (σ : FSt) (i : Nat) (n : Nd) (k : Nat) : FSt := σ.put i (some { n with data := resize n.data k })
end Go.Proofs.YtdnbfhcbcdodmaaGreatDoor

/- files.FS.Read, Bytes. Conditions: the contracts' own premises. -/
namespace Go.Proofs.YtdnbfhcbcdodmaaGreatDoor
open Go.RowKit

def readE (σ : FSt) (i at' n : Int) : Int := if fileE σ i ≠ 0 then fileE σ i else if at' < 0 ∨ n < 0 then 22 else 0
def dataI (σ : FSt) (i : Int) : List UInt8 := match σ.ndI i with | none => [] | some n => n.data
def readB (σ : FSt) (i at' n : Int) : List UInt8 := if readE σ i at' n ≠ 0 then [] else ((dataI σ i).drop at'.toNat).take n.toNat
theorem conv_bytes {w : World} {g a : Nat} (l : List UInt8) (hc : ∀ j (hj : j < l.length), w.cell? ⟨g, a + j, none⟩ = some (.int .u8 (l[j].toNat : Int))) (cap : Nat) :
    (convert 118 9 (.slice (some ⟨g, a, none⟩) l.length cap)).run Tryz.prog w = .ok (.string ⟨l.toArray⟩) w :=
  run_convert_bytes_back w 118 9 5 ⟨g, a, none⟩ cap l (by kernel_rfl) (by kernel_rfl) (by kernel_rfl) (fun j hj => by
    have hadd : (⟨g, a, none⟩ : Addr).add j = ⟨g, a + j, none⟩ := by unfold Addr.add; split <;> simp_all
    rw [hadd]
    exact hc j hj)
end Go.Proofs.YtdnbfhcbcdodmaaGreatDoor

/- files.FS.Truncate, Write, Bytes. Conditions: the contracts' own premises. -/
namespace Go.Proofs.YtdnbfhcbcdodmaaGreatDoor
open Go.RowKit

/-- So it answers, and so it leaves. -/
def MutPost (f : Nat) (σ' : FSt) (S : Nat → Prop) (p : Nat → Nat) (v : Value) (w : World) (e : Ending) (w' : World) : Prop := e = .returned v ∧ FilesAt w' f σ' S p ∧ Fr S w w'
theorem MutPost.still {f : Nat} {σ : FSt} {S : Nat → Prop} {p : Nat → Nat} {v : Value} {w w' : World} (h : FilesAt w f σ S p) (hf : Fr (fun _ => False) w w') : MutPost f σ S p v w (.returned v) w' := ⟨rfl, h.frame hf (fun _ _ _ e => e), hf.mono (fun _ _ e => e.elim)⟩
theorem ndI_nat {σ : FSt} {k : Nat} {n : Nd} (h : σ.nd k = some n) : σ.ndI (k : Int) = some n := by
  unfold FSt.ndI
  obtain ⟨h0, _⟩ := FSt.nd_lt (show (σ.nd k).isSome = true by rw [h]; rfl)
  rw [if_pos (by omega)]
  simpa using h
def fits (σ : FSt) (n : Nd) (m : Nat) : Prop := σ.byts + m ≤ 65536 + n.data.length
instance (σ : FSt) (n : Nd) (m : Nat) : Decidable (fits σ n m) := by unfold fits; infer_instance
def overwrite (l : List UInt8) (a : Nat) (s : List UInt8) : List UInt8 := l.take a ++ s ++ l.drop (a + s.length)
theorem overwrite_length {l : List UInt8} {a : Nat} {s : List UInt8} (h : a + s.length ≤ l.length) : (overwrite l a s).length = l.length := by
  unfold overwrite
  simp
  omega
/-- Written over. -/
def overS' (σ : FSt) (i : Nat) (n : Nd) (a : Nat) (s : List UInt8) : FSt := σ.put i (some { n with data := overwrite n.data a s })
theorem DataV.over {w : World} {g cap : Nat} {l s : List UInt8} {a : Nat} (h : DataV w (.slice (some ⟨g, 0, none⟩) l.length cap) l) (hl : a + s.length ≤ l.length) :
    ∃ cur, w.heap[g]? = some (.cells cur 5 (0, 0)) ∧ l.length ≤ cap ∧ cap ≤ cur.size ∧ DataV (w.setRow g (cur.toList.take a ++ byteV s ++ cur.toList.drop (a + s.length)).toArray) (.slice (some ⟨g, 0, none⟩) l.length cap) (overwrite l a s) := by
  rcases h with ⟨e, _⟩ | ⟨g', cap', cur, e, hg, hc1, hc2, hcur⟩
  · cases e
  · cases e
    refine ⟨cur, hg, hc1, hc2, .inr ⟨g, cap, _, by rw [overwrite_length hl], setRow_heap w g cur _ _ _ hg, by rw [overwrite_length hl]; exact hc1, ?_, ?_⟩⟩
    · simp [byteV]; omega
    · rw [overwrite_length hl]
      have e0 : cur.toList = cur.toList.take l.length ++ cur.toList.drop l.length := (List.take_append_drop _ _).symm
      have e1 : cur.toList.take a = (l.take a).map fun c => Value.int .u8 c.toNat := by
        rw [List.map_take, ← hcur, List.take_take, Nat.min_eq_left (by omega)]
      have e2 : (cur.toList.drop (a + s.length)).take (l.length - (a + s.length)) = (l.drop (a + s.length)).map fun c => Value.int .u8 c.toNat := by
        rw [List.map_drop, ← hcur, List.drop_take]
      unfold overwrite
      rw [List.map_append, List.map_append, ← e1, ← e2]
      have h3 : (cur.toList.take a).length = a := by simp; omega
      rw [List.take_append, List.take_of_length_le (by simp [byteV, h3]; omega)]
      congr 1
      simp [byteV, h3]
def writeR (σ : FSt) (i a : Int) (s : List UInt8) : Int × Int × FSt :=
  match σ.ndI i with
  | none => (0, 9, σ)
  | some nd =>
    if nd.d then (0, 21, σ) else if a < 0 then (0, 22, σ) else if 65536 < a ∨ 65536 < s.length then (0, 28, σ) else if s = [] then (0, 0, σ)
    else if fits σ nd (max nd.data.length (a.toNat + s.length)) then (((s.length : Nat) : Int), 0, overS' (sizeS σ i.toNat nd (max nd.data.length (a.toNat + s.length))) i.toNat { nd with data := resize nd.data (max nd.data.length (a.toNat + s.length)) } a.toNat s)
    else (0, 28, σ)
end Go.Proofs.YtdnbfhcbcdodmaaGreatDoor

/- The tree of files as plain data: an entry more, an inode more. No program in sight; no condition. -/
namespace Go.Proofs.YtdnbfhcbcdodmaaGreatDoor
open Go.RowKit

def openS (σ : FSt) (a : Nat) (nm : List UInt8) : Int := match σ.nd a with | none => 2 | some n => openE n nm
/-- The entry of that name in an inode. -/
def lookS (σ : FSt) (a : Nat) (nm : List UInt8) : Option Nat := match σ.nd a with | none => none | some n => kget nm n.ents
def entS (σ : FSt) (a : Nat) (f : KA Nat → KA Nat) : FSt := match σ.nd a with | none => σ | some n => σ.put a (some { n with ents := f n.ents })
def linkS (σ : FSt) (a : Nat) (nm : List UInt8) (k : Nat) : FSt := entS σ a (kput nm k)
def cutS (σ : FSt) (a : Nat) (nm : List UInt8) : FSt := entS σ a (kdel nm)
def newNd (d : Bool) (m : Int) (a : Nat) : Nd := ⟨d, modeN m, 1, 0, [], [], a⟩
def addE (σ : FSt) (dir : Int) (s : List UInt8) (d : Bool) : Int :=
  if (aheadE σ dir s).1 ≠ 0 then (aheadE σ dir s).1
  else if slashS s = true ∧ d = false then 21
  else if openS σ (aheadE σ dir s).2.1 (aheadE σ dir s).2.2 ≠ 0 then openS σ (aheadE σ dir s).2.1 (aheadE σ dir s).2.2
  else if 100 ≤ σ.cnt then 23 else 0
def addS (σ : FSt) (dir : Int) (s : List UInt8) (d : Bool) (m : Int) : FSt := linkS (σ.add (newNd d m (aheadE σ dir s).2.1)) (aheadE σ dir s).2.1 (aheadE σ dir s).2.2 σ.free
def makeR (σ : FSt) (dir : Int) (s : List UInt8) (d : Bool) (m : Int) : Int × FSt := if addE σ dir s d ≠ 0 then (addE σ dir s d, σ) else (0, addS σ dir s d m)
/-- No count is great. -/
def Caps (σ : FSt) (k : Nat) : Prop := ∀ i n, σ.nd i = some n → n.links ≤ k ∧ n.holds ≤ k ∧ n.ents.length ≤ k
def CapB (σ : FSt) : Prop := Caps σ 1000000000000
theorem FSt.add_same (σ : FSt) (n : Nd) : (σ.add n).nd σ.free = some n := by rw [FSt.nd_add, if_pos rfl]
theorem FSt.add_other {σ : FSt} {i : Nat} (h : (σ.nd i).isSome = true) (n : Nd) : (σ.add n).nd i = σ.nd i := by
  rw [FSt.nd_add, if_neg]
  rintro rfl
  rw [FSt.nd_free] at h
  cases h
theorem entS_some {σ : FSt} {a : Nat} {n : Nd} (h : σ.nd a = some n) (f : KA Nat → KA Nat) : entS σ a f = σ.put a (some { n with ents := f n.ents }) := by unfold entS; rw [h]
theorem Live.ent {σ : FSt} (h : Live σ) {a : Nat} {n : Nd} (hn : σ.nd a = some n) (f : KA Nat → KA Nat) (he : ∀ q ∈ f n.ents, (σ.nd q.2).isSome = true ∧ q.1.length ≤ 32) : Live (entS σ a f) := by
  rw [entS_some hn]
  refine h.put hn rfl (fun e => ?_) (fun q hq => (he q hq).1) (h.par a n hn) ?_ (fun q hq => (he q hq).2)
  · obtain ⟨r, h1, _, h2⟩ := h.root
    subst e
    rw [hn] at h1
    cases h1
    exact h2
  · have h1 := FSt.byts_put hn (some { n with ents := f n.ents })
    have h2 := h.byts
    simp only [ndLen] at h1
    omega
theorem Live.link {σ : FSt} (h : Live σ) {a k : Nat} {n : Nd} (hn : σ.nd a = some n) {nm : List UInt8} (hnm : nm.length ≤ 32) (hk : (σ.nd k).isSome = true) : Live (linkS σ a nm k) :=
  h.ent hn _ fun q hq => by
    rcases kput_mem hq with rfl | hq
    · exact ⟨hk, hnm⟩
    · exact ⟨h.ents a n hn q hq, h.names a n hn q hq⟩
theorem Live.cut {σ : FSt} (h : Live σ) {a : Nat} {n : Nd} (hn : σ.nd a = some n) (nm : List UInt8) : Live (cutS σ a nm) :=
  h.ent hn _ fun q hq => ⟨h.ents a n hn q (List.mem_filter.1 hq).1, h.names a n hn q (List.mem_filter.1 hq).1⟩
end Go.Proofs.YtdnbfhcbcdodmaaGreatDoor

/- The tree of files in memory: an inode more; an inode's entries changed. Conditions: the laws' own premises. -/
namespace Go.Proofs.YtdnbfhcbcdodmaaGreatDoor
open Go.RowKit

theorem Live.one_ne_free {σ : FSt} (h : Live σ) : (1 : Nat) ≠ σ.free := by
  obtain ⟨r, hr, _⟩ := h.root
  intro e
  rw [e, FSt.nd_free] at hr
  cases hr
theorem Live.ne_free {σ : FSt} {i : Nat} (h : (σ.nd i).isSome = true) : i ≠ σ.free := by
  rintro rfl
  rw [FSt.nd_free] at h
  cases h
end Go.Proofs.YtdnbfhcbcdodmaaGreatDoor

/- The tree of files as plain data: how often an inode is named; that the directories are a tree. No program in sight; no condition. -/
namespace Go.Proofs.YtdnbfhcbcdodmaaGreatDoor
open Go.RowKit

def entN (i : Nat) (L : KA Nat) : Nat := (L.filter fun q => q.2 == i).length
def refN (i : Nat) (o : Option Nd) : Nat := match o with | none => 0 | some n => entN i n.ents
/-- How many entries name it. -/
def refs (σ : FSt) (i : Nat) : Nat := (σ.map (refN i)).sum
theorem refs_put {σ : FSt} {a : Nat} {n : Nd} (h : σ.nd a = some n) (x : Option Nd) (i : Nat) : refs (σ.put a x) i + entN i n.ents = refs σ i + refN i x := by
  obtain ⟨h0, hl⟩ := FSt.nd_lt (by rw [h]; rfl)
  have := sum_set (refN i) σ (a - 1) (by omega) x
  rw [FSt.nd_at h0 (by omega)] at h
  rw [h] at this
  exact this
theorem refs_add (σ : FSt) (n : Nd) (i : Nat) : refs (σ.add n) i = refs σ i + entN i n.ents := by
  unfold refs FSt.add
  split
  · rename_i h
    have h2 := sum_set (refN i) σ _ h (some n)
    have h3 : (σ[σ.findIdx (·.isNone)]).isNone = true := List.findIdx_getElem (w := h)
    have h4 : σ[σ.findIdx (·.isNone)] = none := by simpa using h3
    rw [h4] at h2
    simpa [refN] using h2
  · simp [refN]
theorem entN_cons (i : Nat) (q : List UInt8 × Nat) (L : KA Nat) : entN i (q :: L) = entN i L + (if q.2 = i then 1 else 0) := by
  unfold entN
  rw [List.filter_cons]
  by_cases e : q.2 = i
  · rw [if_pos (by simpa using e), if_pos e]; rfl
  · rw [if_neg (by simpa using e), if_neg e]; rfl
theorem entN_kins (i : Nat) (x : List UInt8 × Nat) : ∀ L : KA Nat, entN i (kins x L) = entN i L + (if x.2 = i then 1 else 0)
  | [] => by show entN i [x] = _; rw [entN_cons]
  | y :: r => by
    rw [kins_cons]
    split
    · rw [entN_cons]
    · rw [entN_cons, entN_kins i x r, entN_cons]; omega
theorem entN_kdel (i : Nat) {s : List UInt8} {k : Nat} : ∀ {L : KA Nat}, KSorted L → kget s L = some k → entN i (kdel s L) + (if k = i then 1 else 0) = entN i L
  | [], _, h => by cases h
  | y :: r, hs, h => by
    have hs' := List.pairwise_cons.1 hs
    rw [kget_cons] at h
    by_cases e : (y.1 == s) = true
    · rw [if_pos e] at h
      cases h
      have hr : kdel s (y :: r) = r := by
        unfold kdel
        rw [List.filter_cons, if_neg (by simp [e]), List.filter_eq_self]
        intro q hq
        have h1 := hs'.1 q hq
        have h2 : y.1 = s := by simpa using e
        simp only [Bool.not_eq_true', beq_eq_false_iff_ne]
        rintro h3
        rw [h2, ← h3] at h1
        exact absurd (before_lt h1) (List.lt_irrefl _)
      rw [hr, entN_cons]
    · rw [if_neg e] at h
      have ih := entN_kdel i hs'.2 h
      have hr : kdel s (y :: r) = y :: kdel s r := by
        unfold kdel
        rw [List.filter_cons, if_pos (by simpa using e)]
      rw [hr, entN_cons, entN_cons]
      omega
theorem kdel_none {s : List UInt8} {L : KA Nat} (h : kget s L = none) : kdel s L = L := kdel_same h
theorem entN_kput (i : Nat) {s : List UInt8} {k : Nat} {L : KA Nat} (h : kget s L = none) : entN i (kput s k L) = entN i L + (if k = i then 1 else 0) := by
  unfold kput
  rw [kdel_none h, entN_kins]
theorem entN_mem {i : Nat} {L : KA Nat} {s : List UInt8} (h : (s, i) ∈ L) : 1 ≤ entN i L := by
  unfold entN
  exact List.length_pos_of_mem (List.mem_filter.2 ⟨h, by simp⟩)
theorem refs_ge {σ : FSt} {a : Nat} {n : Nd} (h : σ.nd a = some n) (i : Nat) : entN i n.ents ≤ refs σ i := by
  have := refs_put h none i
  simp [refN] at this
  omega
theorem refs_pos {σ : FSt} {a i : Nat} {n : Nd} (h : σ.nd a = some n) {s : List UInt8} (hs : kget s n.ents = some i) : 1 ≤ refs σ i :=
  Nat.le_trans (entN_mem (kget_mem hs)) (refs_ge h i)
/-- Named once, by one entry. -/
theorem refs_unique {σ : FSt} {i : Nat} (h1 : refs σ i ≤ 1) {a b : Nat} {n m : Nd} (ha : σ.nd a = some n) (hb : σ.nd b = some m) (hn : KSorted n.ents) {s t : List UInt8} (hs : kget s n.ents = some i) (ht : kget t m.ents = some i) : a = b ∧ s = t := by
  have h2 := refs_put ha (some { n with ents := kdel s n.ents }) i
  have h3 := entN_kdel i hn hs
  simp only [refN, if_true] at h2 h3
  have h4 : refs (σ.put a (some { n with ents := kdel s n.ents })) i = 0 := by omega
  by_cases e : a = b
  · subst e
    rw [ha] at hb
    cases hb
    refine ⟨rfl, ?_⟩
    apply Decidable.byContradiction
    intro hne
    have h5 : kget t (kdel s n.ents) = some i := by rw [kget_kdel_other (fun e => hne e.symm)]; exact ht
    have h6 := refs_pos (σ := σ.put a (some { n with ents := kdel s n.ents })) (a := a) (n := { n with ents := kdel s n.ents }) (by rw [FSt.nd_put (by rw [ha]; rfl), if_pos rfl]) h5
    omega
  · have h6 := refs_pos (σ := σ.put a (some { n with ents := kdel s n.ents })) (a := b) (n := m) (by rw [FSt.nd_put (by rw [ha]; rfl), if_neg (fun e2 => e e2.symm)]; exact hb) ht
    omega
/-- So many steps up to e, which is the root or what floats (no other inode on the way is). -/
inductive Dep (σ : FSt) (fl e : Nat) : Nat → Nat → Prop
  | base : e = 1 ∨ e = fl → Dep σ fl e e 0
  | up {i k : Nat} {n : Nd} : i ≠ 1 → i ≠ fl → σ.nd i = some n → n.d = true → n.links ≠ 0 → Dep σ fl e n.par k → Dep σ fl e i (k + 1)
/-- A tree, but for one inode that has a name less than it counts (0: none). -/
structure Inv (σ : FSt) (fl : Nat) : Prop where
  cnt : ∀ i n, σ.nd i = some n → i ≠ 1 → n.links = refs σ i + (if i = fl then 1 else 0)
  root : refs σ 1 = 0
  one : ∀ i n, σ.nd i = some n → n.d = true → n.links ≤ 1
  dead : ∀ i n, σ.nd i = some n → n.d = true → n.links = 0 → n.ents = []
  up : ∀ i n, σ.nd i = some n → n.d = true → n.links ≠ 0 → i ≠ 1 → i ≠ fl → ∃ m nm, σ.nd n.par = some m ∧ m.d = true ∧ kget nm m.ents = some i
  deep : ∀ i n, σ.nd i = some n → n.d = true → n.links ≠ 0 → ∃ e k, Dep σ fl e i k
  srt : ∀ i n, σ.nd i = some n → KSorted n.ents
  file : ∀ i n, σ.nd i = some n → n.d = false → n.ents = []
  alive : ∀ i n, σ.nd i = some n → n.links ≠ 0 ∨ n.holds ≠ 0
  flat : fl ≠ 1
  rootp : ∀ n, σ.nd 1 = some n → n.par = 1
theorem Dep.end_ok {σ : FSt} {fl e i k : Nat} (h : Dep σ fl e i k) : e = 1 ∨ e = fl := by induction h <;> assumption
/-- The way up, where nothing on it has turned. -/
theorem Dep.same {σ τ : FSt} {fl fl' e : Nat} (he : e = 1 ∨ e = fl') (h : ∀ i n, i ≠ 1 → i ≠ fl → σ.nd i = some n → n.d = true → n.links ≠ 0 → i ≠ fl' ∧ ∃ m, τ.nd i = some m ∧ m.d = true ∧ m.links ≠ 0 ∧ m.par = n.par) :
    ∀ {i k : Nat}, Dep σ fl e i k → Dep τ fl' e i k
  | _, _, .base _ => .base he
  | i, _, .up h1 h2 h3 h4 h5 h6 => by
    obtain ⟨h7, m, h8, h9, h10, h11⟩ := h i _ h1 h2 h3 h4 h5
    exact .up h1 h7 h8 h9 h10 (h11 ▸ Dep.same he h h6)
theorem nd_zero (σ : FSt) : σ.nd 0 = none := rfl
theorem nd_pos {σ : FSt} {i : Nat} {n : Nd} (h : σ.nd i = some n) : i ≠ 0 := fun e => by rw [e, nd_zero] at h; cases h
theorem put_nd {σ : FSt} {a : Nat} {n : Nd} (h : σ.nd a = some n) (x : Option Nd) (j : Nat) : (σ.put a x).nd j = if j = a then x else σ.nd j := FSt.nd_put (by rw [h]; rfl) x j
/-- An inode changed in what the tree doesn't look at. -/
theorem Inv.soft {σ : FSt} {fl : Nat} (h : Inv σ fl) {i : Nat} {n n' : Nd} (hn : σ.nd i = some n) (hd : n'.d = n.d) (hl : n'.links = n.links) (he : n'.ents = n.ents) (hp : n'.par = n.par) (ha : n'.links ≠ 0 ∨ n'.holds ≠ 0) : Inv (σ.put i (some n')) fl := by
  have hnd := put_nd hn (some n')
  have hr : ∀ j, refs (σ.put i (some n')) j = refs σ j := fun j => by
    have := refs_put hn (some n') j
    simp only [refN, he] at this
    omega
  have cs : ∀ j m, (σ.put i (some n')).nd j = some m → ∃ m0, σ.nd j = some m0 ∧ m.d = m0.d ∧ m.links = m0.links ∧ m.ents = m0.ents ∧ m.par = m0.par := fun j m hj => by
    rw [hnd] at hj
    by_cases e : j = i
    · rw [if_pos e] at hj; cases hj; exact ⟨n, by rw [e]; exact hn, hd, hl, he, hp⟩
    · rw [if_neg e] at hj; exact ⟨m, hj, rfl, rfl, rfl, rfl⟩
  have cf : ∀ j m0, σ.nd j = some m0 → ∃ m, (σ.put i (some n')).nd j = some m ∧ m.d = m0.d ∧ m.links = m0.links ∧ m.ents = m0.ents ∧ m.par = m0.par := fun j m0 hj => by
    by_cases e : j = i
    · rw [e, hn] at hj; cases hj; exact ⟨n', by rw [hnd, if_pos e], hd, hl, he, hp⟩
    · exact ⟨m0, by rw [hnd, if_neg e]; exact hj, rfl, rfl, rfl, rfl⟩
  refine ⟨fun j m hj h1 => ?_, by rw [hr]; exact h.root, fun j m hj h1 => ?_, fun j m hj h1 h2 => ?_, fun j m hj h1 h2 h3 h4 => ?_, fun j m hj h1 h2 => ?_, fun j m hj => ?_, fun j m hj h1 => ?_, fun j m hj => ?_, h.flat, fun m hj => by obtain ⟨m0, a1, a2, a3, a4, a5⟩ := cs 1 m hj; rw [a5]; exact h.rootp m0 a1⟩
  · obtain ⟨m0, a1, a2, a3, a4, a5⟩ := cs j m hj
    rw [a3, hr]; exact h.cnt j m0 a1 h1
  · obtain ⟨m0, a1, a2, a3, a4, a5⟩ := cs j m hj
    rw [a3]; exact h.one j m0 a1 (a2 ▸ h1)
  · obtain ⟨m0, a1, a2, a3, a4, a5⟩ := cs j m hj
    rw [a4]; exact h.dead j m0 a1 (a2 ▸ h1) (a3 ▸ h2)
  · obtain ⟨m0, a1, a2, a3, a4, a5⟩ := cs j m hj
    obtain ⟨q, nm, b1, b2, b3⟩ := h.up j m0 a1 (a2 ▸ h1) (a3 ▸ h2) h3 h4
    obtain ⟨q', c1, c2, c3, c4, c5⟩ := cf _ q b1
    exact ⟨q', nm, by rw [a5]; exact c1, c2.trans b2, by rw [c4]; exact b3⟩
  · obtain ⟨m0, a1, a2, a3, a4, a5⟩ := cs j m hj
    obtain ⟨e, k, hk⟩ := h.deep j m0 a1 (a2 ▸ h1) (a3 ▸ h2)
    exact ⟨e, k, hk.same hk.end_ok fun i0 n0 b1 b2 b3 b4 b5 => ⟨b2, by
      obtain ⟨q', c1, c2, c3, c4, c5⟩ := cf _ n0 b3
      exact ⟨q', c1, c2.trans b4, by rw [c3]; exact b5, c5⟩⟩⟩
  · obtain ⟨m0, a1, a2, a3, a4, a5⟩ := cs j m hj
    rw [a4]; exact h.srt j m0 a1
  · obtain ⟨m0, a1, a2, a3, a4, a5⟩ := cs j m hj
    rw [a4]; exact h.file j m0 a1 (a2 ▸ h1)
  · rw [hnd] at hj
    by_cases e : j = i
    · rw [if_pos e] at hj; cases hj; exact ha
    · rw [if_neg e] at hj; exact h.alive j m hj
theorem refs_exists {i : Nat} : ∀ {σ : FSt}, refs σ i ≠ 0 → ∃ (j : Nat) (n : Nd) (q : List UInt8 × Nat), σ[j]? = some (some n) ∧ q ∈ n.ents ∧ q.2 = i
  | [], h => absurd rfl h
  | o :: σ, h => by
    unfold refs at h
    simp only [List.map_cons, List.sum_cons] at h
    by_cases h1 : refN i o = 0
    · obtain ⟨j, n, q, h2, h3⟩ := refs_exists (σ := σ) (i := i) (by unfold refs; omega)
      exact ⟨j + 1, n, q, by simpa using h2, h3⟩
    · cases o with
      | none => exact absurd rfl h1
      | some n =>
        simp only [refN, entN] at h1
        obtain ⟨q, hq⟩ := List.exists_mem_of_length_pos (Nat.pos_of_ne_zero h1)
        obtain ⟨h2, h3⟩ := List.mem_filter.1 hq
        exact ⟨0, n, q, rfl, h2, by simpa using h3⟩
theorem nd_of_get {σ : FSt} {j : Nat} {n : Nd} (h : σ[j]? = some (some n)) : σ.nd (j + 1) = some n := by
  unfold FSt.nd
  rw [if_neg (by omega), Nat.add_sub_cancel, h]
  rfl
theorem refs_none {σ : FSt} (h : Live σ) {i : Nat} (hi : σ.nd i = none) : refs σ i = 0 := by
  apply Decidable.byContradiction
  intro h1
  obtain ⟨j, n, q, h2, h3, h4⟩ := refs_exists h1
  have := h.ents _ _ (nd_of_get h2) q h3
  rw [h4, hi] at this
  cases this
theorem kget_nil_none {s : List UInt8} {L : KA Nat} {k : Nat} (h : kget s L = some k) (h2 : L = []) : False := by rw [h2] at h; cases h
/-- Above a directory that is named there is one that is named. -/
theorem Inv.above {σ : FSt} {fl : Nat} (h : Inv σ fl) {i : Nat} {n : Nd} (hn : σ.nd i = some n) (hd : n.d = true) (hl : n.links ≠ 0) (h1 : i ≠ 1) (h2 : i ≠ fl) : ∃ m nm, σ.nd n.par = some m ∧ m.d = true ∧ m.links ≠ 0 ∧ kget nm m.ents = some i := by
  obtain ⟨m, nm, h3, h4, h5⟩ := h.up i n hn hd hl h1 h2
  exact ⟨m, nm, h3, h4, fun e => kget_nil_none h5 (h.dead _ m h3 h4 e), h5⟩
/-- Each directory that is named leads to the root. -/
theorem Inv.to_root {σ : FSt} (h : Inv σ 0) {i : Nat} {n : Nd} (hn : σ.nd i = some n) (hd : n.d = true) (hl : n.links ≠ 0) : ∃ k, Dep σ 0 1 i k := by
  obtain ⟨e, k, hk⟩ := h.deep i n hn hd hl
  have key : ∀ {k i : Nat}, Dep σ 0 e i k → ∀ n, σ.nd i = some n → n.d = true → n.links ≠ 0 → Dep σ 0 1 i k := by
    intro k
    induction k with
    | zero =>
      intro i hk n hn hd hl
      cases hk with
      | base he =>
        rcases he with rfl | rfl
        · exact .base (.inl rfl)
        · exact absurd hn (by rw [nd_zero]; simp)
    | succ k ih =>
      intro i hk n hn hd hl
      cases hk with
      | up h1 h2 h3 h4 h5 h6 =>
        rw [h3] at hn
        cases hn
        obtain ⟨m, nm, b1, b2, b3, _⟩ := h.above h3 h4 h5 h1 h2
        exact .up h1 h2 h3 h4 h5 (ih h6 m b1 b2 b3)
  exact ⟨k, key hk n hn hd hl⟩
/-- A new inode, that nothing names yet. -/
theorem Inv.add {σ : FSt} (h : Inv σ 0) (hL : Live σ) (d : Bool) (m : Int) (a : Nat) : Inv (σ.add (newNd d m a)) σ.free := by
  have hnd := FSt.nd_add σ (newNd d m a)
  have hr : ∀ j, refs (σ.add (newNd d m a)) j = refs σ j := fun j => by rw [refs_add]; rfl
  have hfree := refs_none hL (FSt.nd_free σ)
  have ne : ∀ j n, σ.nd j = some n → j ≠ σ.free := fun j n hj => Live.ne_free (by rw [hj]; rfl)
  have cs : ∀ j n, (σ.add (newNd d m a)).nd j = some n → (j = σ.free ∧ n = newNd d m a) ∨ (j ≠ σ.free ∧ σ.nd j = some n) := fun j n hj => by
    rw [hnd] at hj
    by_cases e : j = σ.free
    · rw [if_pos e] at hj; cases hj; exact .inl ⟨e, rfl⟩
    · rw [if_neg e] at hj; exact .inr ⟨e, hj⟩
  have cf : ∀ j n, σ.nd j = some n → (σ.add (newNd d m a)).nd j = some n := fun j n hj => by rw [hnd, if_neg (ne j n hj)]; exact hj
  refine ⟨fun j n hj h1 => ?_, by rw [hr]; exact h.root, fun j n hj h1 => ?_, fun j n hj h1 h2 => ?_, fun j n hj h1 h2 h3 h4 => ?_, fun j n hj h1 h2 => ?_, fun j n hj => ?_, fun j n hj h1 => ?_, fun j n hj => ?_, fun e => hL.one_ne_free e.symm, fun n hj => h.rootp n ((cs 1 n hj).resolve_left fun e => hL.one_ne_free e.1).2⟩
  · rw [hr]
    rcases cs j n hj with ⟨rfl, rfl⟩ | ⟨e, hj⟩
    · rw [hfree, if_pos rfl]; rfl
    · rw [if_neg e, h.cnt j n hj h1, if_neg (nd_pos hj)]
  · rcases cs j n hj with ⟨rfl, rfl⟩ | ⟨e, hj⟩
    · exact Nat.le_refl _
    · exact h.one j n hj h1
  · rcases cs j n hj with ⟨rfl, rfl⟩ | ⟨e, hj⟩
    · rfl
    · exact h.dead j n hj h1 h2
  · rcases cs j n hj with ⟨rfl, rfl⟩ | ⟨e, hj⟩
    · exact absurd rfl h4
    · obtain ⟨q, nm, b1, b2, b3⟩ := h.up j n hj h1 h2 h3 (nd_pos hj)
      exact ⟨q, nm, cf _ _ b1, b2, b3⟩
  · rcases cs j n hj with ⟨rfl, rfl⟩ | ⟨e, hj⟩
    · exact ⟨σ.free, 0, .base (.inr rfl)⟩
    · obtain ⟨k, hk⟩ := h.to_root hj h1 h2
      exact ⟨1, k, hk.same (.inl rfl) fun i n b1 b2 b3 b4 b5 => ⟨ne i n b3, n, cf i n b3, b4, b5, rfl⟩⟩
  · rcases cs j n hj with ⟨rfl, rfl⟩ | ⟨e, hj⟩
    · exact List.Pairwise.nil
    · exact h.srt j n hj
  · rcases cs j n hj with ⟨rfl, rfl⟩ | ⟨e, hj⟩
    · rfl
    · exact h.file j n hj h1
  · rcases cs j n hj with ⟨rfl, rfl⟩ | ⟨e, hj⟩
    · exact .inl (by show (1 : Nat) ≠ 0; decide)
    · exact h.alive j n hj
/-- The way up, where it may end earlier now. -/
theorem Dep.split {σ τ : FSt} {k : Nat} (h : ∀ i n, σ.nd i = some n → n.d = true → n.links ≠ 0 → i ≠ k → ∃ m, τ.nd i = some m ∧ m.d = true ∧ m.links ≠ 0 ∧ m.par = n.par) : ∀ {j i : Nat}, Dep σ 0 1 i j → ∃ e j', Dep τ k e i j' := by
  intro j
  induction j with
  | zero => intro i hd; cases hd; exact ⟨1, 0, .base (.inl rfl)⟩
  | succ j ih =>
    intro i hd
    by_cases e : i = k
    · subst e; exact ⟨i, 0, .base (.inr rfl)⟩
    · cases hd with
      | up h1 h2 h3 h4 h5 h6 =>
        obtain ⟨m, b1, b2, b3, b4⟩ := h i _ h3 h4 h5 e
        obtain ⟨e', j', h7⟩ := ih h6
        exact ⟨e', j' + 1, .up h1 e b1 b2 b3 (b4 ▸ h7)⟩
/-- An entry less: what it named floats. -/
theorem Inv.cut {σ : FSt} (h : Inv σ 0) {a k : Nat} {n : Nd} {nm : List UInt8} (hn : σ.nd a = some n) (hk : kget nm n.ents = some k) : Inv (cutS σ a nm) k := by
  have hσ : cutS σ a nm = σ.put a (some { n with ents := kdel nm n.ents }) := entS_some hn _
  rw [hσ]
  have hnd := put_nd hn (some { n with ents := kdel nm n.ents })
  have hr : ∀ j, refs (σ.put a (some { n with ents := kdel nm n.ents })) j + (if k = j then 1 else 0) = refs σ j := fun j => by
    have h1 := refs_put hn (some { n with ents := kdel nm n.ents }) j
    have h2 := entN_kdel j (h.srt a n hn) hk
    simp only [refN] at h1
    omega
  have hk1 : k ≠ 1 := fun e => by have := hr 1; rw [if_pos e, h.root] at this; omega
  have cs : ∀ j m, (σ.put a (some { n with ents := kdel nm n.ents })).nd j = some m → ∃ m0, σ.nd j = some m0 ∧ m.d = m0.d ∧ m.links = m0.links ∧ m.par = m0.par ∧ m.holds = m0.holds ∧ ((j = a ∧ m.ents = kdel nm m0.ents) ∨ (j ≠ a ∧ m.ents = m0.ents)) := fun j m hj => by
    rw [hnd] at hj
    by_cases e : j = a
    · rw [if_pos e] at hj; cases hj; exact ⟨n, by rw [e]; exact hn, rfl, rfl, rfl, rfl, .inl ⟨e, rfl⟩⟩
    · rw [if_neg e] at hj; exact ⟨m, hj, rfl, rfl, rfl, rfl, .inr ⟨e, rfl⟩⟩
  have cf : ∀ j m0, σ.nd j = some m0 → ∃ m, (σ.put a (some { n with ents := kdel nm n.ents })).nd j = some m ∧ m.d = m0.d ∧ m.links = m0.links ∧ m.par = m0.par ∧ (m.ents = m0.ents ∨ (j = a ∧ m.ents = kdel nm m0.ents)) := fun j m0 hj => by
    by_cases e : j = a
    · rw [e, hn] at hj; cases hj; exact ⟨{ n with ents := kdel nm n.ents }, by rw [hnd, if_pos e], rfl, rfl, rfl, .inr ⟨e, rfl⟩⟩
    · exact ⟨m0, by rw [hnd, if_neg e]; exact hj, rfl, rfl, rfl, .inl rfl⟩
  have knil : kdel nm ([] : KA Nat) = [] := rfl
  refine ⟨fun j m hj h1 => ?_, by have := hr 1; rw [h.root] at this; omega, fun j m hj h1 => ?_, fun j m hj h1 h2 => ?_, fun j m hj h1 h2 h3 h4 => ?_, fun j m hj h1 h2 => ?_, fun j m hj => ?_, fun j m hj h1 => ?_, fun j m hj => ?_, hk1, fun m hj => by obtain ⟨m0, a1, a2, a3, a4, a5, a6⟩ := cs 1 m hj; rw [a4]; exact h.rootp m0 a1⟩
  · obtain ⟨m0, a1, a2, a3, a4, a5, a6⟩ := cs j m hj
    have h2 := hr j
    have h3 := h.cnt j m0 a1 h1
    rw [if_neg (nd_pos a1)] at h3
    rw [a3, h3, ← h2]
    by_cases e : j = k
    · rw [if_pos e, if_pos e.symm]; try omega
    · rw [if_neg e, if_neg (fun e2 => e e2.symm)]; try omega
  · obtain ⟨m0, a1, a2, a3, a4, a5, a6⟩ := cs j m hj
    rw [a3]; exact h.one j m0 a1 (a2 ▸ h1)
  · obtain ⟨m0, a1, a2, a3, a4, a5, a6⟩ := cs j m hj
    have h3 := h.dead j m0 a1 (a2 ▸ h1) (a3 ▸ h2)
    rcases a6 with ⟨_, e⟩ | ⟨_, e⟩
    · rw [e, h3]; rfl
    · rw [e, h3]
  · obtain ⟨m0, a1, a2, a3, a4, a5, a6⟩ := cs j m hj
    obtain ⟨q, nm', b1, b2, b3⟩ := h.up j m0 a1 (a2 ▸ h1) (a3 ▸ h2) h3 (nd_pos a1)
    obtain ⟨q', c1, c2, c3, c4, c5⟩ := cf _ q b1
    refine ⟨q', nm', by rw [a4]; exact c1, c2.trans b2, ?_⟩
    rcases c5 with c5 | ⟨ea, c5⟩
    · rw [c5]; exact b3
    · rw [c5, kget_kdel_other (fun e => ?_)]
      · exact b3
      · rw [ea, hn] at b1
        cases b1
        rw [e, hk] at b3
        exact h4 (Option.some.inj b3).symm
  · obtain ⟨m0, a1, a2, a3, a4, a5, a6⟩ := cs j m hj
    obtain ⟨d, hd⟩ := h.to_root a1 (a2 ▸ h1) (a3 ▸ h2)
    exact hd.split fun i0 n0 b3 b4 b5 _ => by
      obtain ⟨q', c1, c2, c3, c4, c5⟩ := cf _ n0 b3
      exact ⟨q', c1, c2.trans b4, by rw [c3]; exact b5, c4⟩
  · obtain ⟨m0, a1, a2, a3, a4, a5, a6⟩ := cs j m hj
    rcases a6 with ⟨_, e⟩ | ⟨_, e⟩
    · rw [e]; exact (h.srt j m0 a1).kdel _
    · rw [e]; exact h.srt j m0 a1
  · obtain ⟨m0, a1, a2, a3, a4, a5, a6⟩ := cs j m hj
    have h3 := h.file j m0 a1 (a2 ▸ h1)
    rcases a6 with ⟨_, e⟩ | ⟨_, e⟩
    · rw [e, h3]; rfl
    · rw [e, h3]
  · obtain ⟨m0, a1, a2, a3, a4, a5, a6⟩ := cs j m hj
    rw [a3, a5]; exact h.alive j m0 a1
theorem Dep.app {σ τ : FSt} {k : Nat} (h : ∀ i n, i ≠ 1 → i ≠ k → σ.nd i = some n → n.d = true → n.links ≠ 0 → ∃ m, τ.nd i = some m ∧ m.d = true ∧ m.links ≠ 0 ∧ m.par = n.par) {j0 : Nat} (h0 : Dep τ 0 1 k j0) : ∀ {j i : Nat}, Dep σ k k i j → ∃ j', Dep τ 0 1 i j' := by
  intro j
  induction j with
  | zero => intro i hd; cases hd; exact ⟨j0, h0⟩
  | succ j ih =>
    intro i hd
    cases hd with
    | up h1 h2 h3 h4 h5 h6 =>
      obtain ⟨m, b1, b2, b3, b4⟩ := h i _ h1 h2 h3 h4 h5
      obtain ⟨j', h7⟩ := ih h6
      exact ⟨j' + 1, .up h1 (nd_pos b1) b1 b2 b3 (b4 ▸ h7)⟩
theorem Inv.float_dir {σ : FSt} {k : Nat} (h : Inv σ k) {nk : Nd} (hk : σ.nd k = some nk) : ∀ {j i : Nat}, Dep σ k k i j → ∀ n, σ.nd i = some n → n.d = true → n.links ≠ 0 → nk.d = true := by
  intro j
  induction j with
  | zero =>
    intro i hd n hn hdir hl
    cases hd with
    | base he => rw [hk] at hn; cases hn; exact hdir
  | succ j ih =>
    intro i hd n hn hdir hl
    cases hd with
    | up h1 h2 h3 h4 h5 h6 =>
      obtain ⟨m, nm, b1, b2, b3, _⟩ := h.above h3 h4 h5 h1 h2
      exact ih h6 m b1 b2 b3
/-- An entry more, for what floats. -/
theorem Inv.link {σ : FSt} {k : Nat} (h : Inv σ k) {b : Nat} {nk m : Nd} {nm : List UInt8} (hk : σ.nd k = some nk) (hb : σ.nd b = some m) (hd : m.d = true) (hl : m.links ≠ 0) (hg : kget nm m.ents = none) (hdir : nk.d = true → nk.par = b ∧ ∃ j, Dep σ k 1 b j) : Inv (linkS σ b nm k) 0 := by
  have hσ : linkS σ b nm k = σ.put b (some { m with ents := kput nm k m.ents }) := entS_some hb _
  rw [hσ]
  have hnd := put_nd hb (some { m with ents := kput nm k m.ents })
  have hr : ∀ j, refs (σ.put b (some { m with ents := kput nm k m.ents })) j = refs σ j + (if k = j then 1 else 0) := fun j => by
    have h1 := refs_put hb (some { m with ents := kput nm k m.ents }) j
    have h2 := entN_kput j (k := k) hg
    simp only [refN] at h1
    omega
  have hk1 : k ≠ 1 := h.flat
  have hbk : b ≠ k := fun e => by
    subst e
    rw [hk] at hb
    cases hb
    obtain ⟨_, j, hj⟩ := hdir hd
    cases hj with
    | base _ => exact hk1 rfl
    | up _ h2 _ _ _ _ => exact h2 rfl
  have cs : ∀ j x, (σ.put b (some { m with ents := kput nm k m.ents })).nd j = some x → ∃ x0, σ.nd j = some x0 ∧ x.d = x0.d ∧ x.links = x0.links ∧ x.par = x0.par ∧ x.holds = x0.holds ∧ ((j = b ∧ x.ents = kput nm k x0.ents) ∨ (j ≠ b ∧ x.ents = x0.ents)) := fun j x hj => by
    rw [hnd] at hj
    by_cases e : j = b
    · rw [if_pos e] at hj; cases hj; exact ⟨m, by rw [e]; exact hb, rfl, rfl, rfl, rfl, .inl ⟨e, rfl⟩⟩
    · rw [if_neg e] at hj; exact ⟨x, hj, rfl, rfl, rfl, rfl, .inr ⟨e, rfl⟩⟩
  have cf : ∀ j x0, σ.nd j = some x0 → ∃ x, (σ.put b (some { m with ents := kput nm k m.ents })).nd j = some x ∧ x.d = x0.d ∧ x.links = x0.links ∧ x.par = x0.par ∧ (x.ents = x0.ents ∨ (j = b ∧ x.ents = kput nm k x0.ents)) := fun j x0 hj => by
    by_cases e : j = b
    · rw [e, hb] at hj; cases hj; exact ⟨{ m with ents := kput nm k m.ents }, by rw [hnd, if_pos e], rfl, rfl, rfl, .inr ⟨e, rfl⟩⟩
    · exact ⟨x0, by rw [hnd, if_neg e]; exact hj, rfl, rfl, rfl, .inl rfl⟩
  have tr : ∀ i n, i ≠ 1 → i ≠ k → σ.nd i = some n → n.d = true → n.links ≠ 0 → ∃ x, (σ.put b (some { m with ents := kput nm k m.ents })).nd i = some x ∧ x.d = true ∧ x.links ≠ 0 ∧ x.par = n.par := fun i n _ _ b3 b4 b5 => by
    obtain ⟨q', c1, c2, c3, c4, c5⟩ := cf _ n b3
    exact ⟨q', c1, c2.trans b4, by rw [c3]; exact b5, c4⟩
  refine ⟨fun j x hj h1 => ?_, by rw [hr, h.root, if_neg hk1], fun j x hj h1 => ?_, fun j x hj h1 h2 => ?_, fun j x hj h1 h2 h3 h4 => ?_, fun j x hj h1 h2 => ?_, fun j x hj => ?_, fun j x hj h1 => ?_, fun j x hj => ?_, by decide, fun x hj => by obtain ⟨x0, a1, a2, a3, a4, a5, a6⟩ := cs 1 x hj; rw [a4]; exact h.rootp x0 a1⟩
  · obtain ⟨x0, a1, a2, a3, a4, a5, a6⟩ := cs j x hj
    rw [a3, h.cnt j x0 a1 h1, hr, if_neg (nd_pos a1)]
    by_cases e : j = k
    · rw [if_pos e, if_pos e.symm]
    · rw [if_neg e, if_neg (fun e2 => e e2.symm)]
  · obtain ⟨x0, a1, a2, a3, a4, a5, a6⟩ := cs j x hj
    rw [a3]; exact h.one j x0 a1 (a2 ▸ h1)
  · obtain ⟨x0, a1, a2, a3, a4, a5, a6⟩ := cs j x hj
    rcases a6 with ⟨e, _⟩ | ⟨_, e⟩
    · rw [e, hb] at a1
      cases a1
      exact absurd (a3 ▸ h2) hl
    · rw [e]; exact h.dead j x0 a1 (a2 ▸ h1) (a3 ▸ h2)
  · obtain ⟨x0, a1, a2, a3, a4, a5, a6⟩ := cs j x hj
    by_cases e : j = k
    · subst e
      rw [hk] at a1
      cases a1
      obtain ⟨e1, _⟩ := hdir (a2 ▸ h1)
      obtain ⟨x', c1, c2, c3, c4, c5⟩ := cf b m hb
      exact ⟨{ m with ents := kput nm j m.ents }, nm, by rw [a4, e1, hnd, if_pos rfl], hd, kget_kput_same _ _ _⟩
    · obtain ⟨q, nm', b1, b2, b3⟩ := h.up j x0 a1 (a2 ▸ h1) (a3 ▸ h2) h3 e
      obtain ⟨q', c1, c2, c3, c4, c5⟩ := cf _ q b1
      refine ⟨q', nm', by rw [a4]; exact c1, c2.trans b2, ?_⟩
      rcases c5 with c5 | ⟨ea, c5⟩
      · rw [c5]; exact b3
      · rw [c5, kget_kput_other (fun e => ?_)]
        · exact b3
        · rw [ea, hb] at b1
          cases b1
          rw [e, hg] at b3
          cases b3
  · obtain ⟨x0, a1, a2, a3, a4, a5, a6⟩ := cs j x hj
    obtain ⟨e, d, hde⟩ := h.deep j x0 a1 (a2 ▸ h1) (a3 ▸ h2)
    rcases hde.end_ok with he | he
    · rw [he] at hde
      exact ⟨1, d, hde.same (.inl rfl) fun i n b1 b2 b3 b4 b5 => ⟨nd_pos b3, tr i n b1 b2 b3 b4 b5⟩⟩
    · rw [he] at hde
      have hnkd := h.float_dir hk hde x0 a1 (a2 ▸ h1) (a3 ▸ h2)
      obtain ⟨e1, j0, hj0⟩ := hdir hnkd
      have hkl : nk.links ≠ 0 := by have := h.cnt k nk hk hk1; rw [if_pos rfl] at this; omega
      have hup : Dep (σ.put b (some { m with ents := kput nm k m.ents })) 0 1 b j0 := hj0.same (.inl rfl) fun i n b1 b2 b3 b4 b5 => ⟨nd_pos b3, tr i n b1 b2 b3 b4 b5⟩
      have hk' : (σ.put b (some { m with ents := kput nm k m.ents })).nd k = some nk := by rw [hnd, if_neg (fun e2 => hbk e2.symm)]; exact hk
      have h0 : Dep (σ.put b (some { m with ents := kput nm k m.ents })) 0 1 k (j0 + 1) := .up hk1 (nd_pos hk) hk' hnkd hkl (e1 ▸ hup)
      obtain ⟨j', h'⟩ := Dep.app tr h0 hde
      exact ⟨1, j', h'⟩
  · obtain ⟨x0, a1, a2, a3, a4, a5, a6⟩ := cs j x hj
    rcases a6 with ⟨_, e⟩ | ⟨_, e⟩
    · rw [e]; exact (h.srt j x0 a1).kput _ _
    · rw [e]; exact h.srt j x0 a1
  · obtain ⟨x0, a1, a2, a3, a4, a5, a6⟩ := cs j x hj
    rcases a6 with ⟨e, _⟩ | ⟨_, e⟩
    · rw [e, hb] at a1
      cases a1
      rw [a2, hd] at h1
      cases h1
    · rw [e]; exact h.file j x0 a1 (a2 ▸ h1)
  · obtain ⟨x0, a1, a2, a3, a4, a5, a6⟩ := cs j x hj
    rw [a3, a5]; exact h.alive j x0 a1
end Go.Proofs.YtdnbfhcbcdodmaaGreatDoor

/- files.FS.add: a new inode at a place. Conditions: the contract's own premises. -/
namespace Go.Proofs.YtdnbfhcbcdodmaaGreatDoor
open Go.RowKit

/-- A new inode's block: nothing in it but its kind and its mode. -/
structure NewB (w : World) (nb : Nat) (d : Bool) (m : Int) (ev : Value) : Prop where
  hb : w.heap[nb]? = some (.cells #[.int .i64 0, .int .i64 (if d then 2 else 1), .int .i64 m, .int .i64 0, .int .i64 0, .slice none 0 0, ev, .pointer none] 120 (0, 0))
  dir : d = true → ∃ mb, ev = .map (some mb) ∧ SMapAt Tryz.prog 9 w mb []
  file : d = false → ev = .map none
theorem NewB.frame {w w' : World} {T : Nat → Prop} {nb : Nat} {d : Bool} {m : Int} {ev : Value} (h : NewB w nb d m ev) (hf : Fr T w w') (h1 : ¬ T nb) (h2 : ∀ mb, ev = .map (some mb) → ¬ T mb) : NewB w' nb d m ev :=
  ⟨hf.get h.hb h1, fun hd => by obtain ⟨mb, h3, h4⟩ := h.dir hd; exact ⟨mb, h3, h4.frame hf (h2 mb h3)⟩, h.file⟩
theorem NewB.map_lt {w : World} {nb : Nat} {d : Bool} {m : Int} {ev : Value} (h : NewB w nb d m ev) {mb : Nat} (he : ev = .map (some mb)) : mb < w.heap.size := by
  cases hd : d with
  | true => obtain ⟨mb', h3, h4⟩ := h.dir hd; rw [he] at h3; cases h3; exact h4.lt
  | false => rw [h.file hd] at he; cases he
end Go.Proofs.YtdnbfhcbcdodmaaGreatDoor

/- files.FS.Create, Mkdir, New. Conditions: the contracts' own premises. -/
namespace Go.Proofs.YtdnbfhcbcdodmaaGreatDoor
open Go.RowKit

/-- So it answers, and so it leaves the tree. -/
def MutX (f : Nat) (σ' : FSt) (S : Nat → Prop) (v : Value) (w : World) (e : Ending) (w' : World) : Prop := e = .returned v ∧ (∃ p', FilesAt w' f σ' S p') ∧ Fr S w w'
theorem MutPost.x {f : Nat} {σ' : FSt} {S : Nat → Prop} {p : Nat → Nat} {v : Value} {w : World} {e : Ending} {w' : World} (h : MutPost f σ' S p v w e w') : MutX f σ' S v w e w' := ⟨h.1, ⟨p, h.2.1⟩, h.2.2⟩
end Go.Proofs.YtdnbfhcbcdodmaaGreatDoor

/- files.slots.cut, files.FS.let: a number is free. Conditions: the contracts' own premises. -/
namespace Go.Proofs.YtdnbfhcbcdodmaaGreatDoor
open Go.RowKit

/-- An inode that nothing names and nothing holds is no more. -/
def letS (σ : FSt) (i : Nat) : FSt := match σ.nd i with | none => σ | some n => if n.links = 0 ∧ n.holds = 0 then σ.put i none else σ
end Go.Proofs.YtdnbfhcbcdodmaaGreatDoor

/- files.New, shyardlaw08.awake. No condition but the library's own variable. -/
namespace Go.Proofs.YtdnbfhcbcdodmaaGreatDoor
open Go.RowKit

def rootN : Nd := ⟨true, 493, 1, 0, [], [], 1⟩
def newT : FSt := [some rootN]
theorem newT_nd {i : Nat} {n : Nd} (h : newT.nd i = some n) : i = 1 ∧ n = rootN := by
  have := FSt.nd_lt (σ := newT) (i := i) (by rw [h]; rfl)
  have e : i = 1 := by have h2 : newT.length = 1 := rfl; omega
  subst e
  cases h
  exact ⟨rfl, rfl⟩
theorem newT_some {i : Nat} (h : (newT.nd i).isSome = true) : i = 1 := by
  obtain ⟨n, hn⟩ := Option.isSome_iff_exists.1 h
  exact (newT_nd hn).1
def NewPost (w : World) (e : Ending) (w' : World) : Prop := ∃ f p, e = .returned (.pointer (some ⟨f, 0, none⟩)) ∧ FilesAt w' f newT (fun k => w.heap.size ≤ k) p ∧ Fr (fun _ => False) w w'
set_option maxRecDepth 100000 in
set_option maxHeartbeats 1000000 in
theorem New_any (w : World) : Calls Tryz.prog 21 #[] w (NewPost w) := by
  have hmm := @run_makeMap Tryz.prog
  obtain ⟨fb, hfb⟩ : ∃ fb, fb = w.heap.size := ⟨_, rfl⟩
  obtain ⟨w1, hw1⟩ : ∃ w1, w1 = w.alloc (.cells #[.slice none 0 0, .int .i64 0, .pointer (some ⟨w.heap.size + 1 + 1, 0, none⟩), .int .i64 0] 113 (0, 0)) := ⟨_, rfl⟩
  obtain ⟨w2, hw2⟩ : ∃ w2, w2 = w1.alloc (.map #[] 0) := ⟨_, rfl⟩
  obtain ⟨w3, hw3⟩ : ∃ w3, w3 = w2.alloc (.cells #[.int .i64 0, .int .i64 2, .int .i64 493, .int .i64 1, .int .i64 0, .slice none 0 0, .map (some (w.heap.size + 1)), .pointer none] 120 (0, 0)) := ⟨_, rfl⟩
  have hz1 : w1.heap.size = w.heap.size + 1 := by rw [hw1]; simp
  have hz2 : w2.heap.size = w.heap.size + 1 + 1 := by rw [hw2]; simp [hz1]
  have hf1 : Fr (fun _ => False) w w1 := by rw [hw1]; exact (Fr.refl _ _).alloc _
  have hf2 : Fr (fun _ => False) w1 w2 := by rw [hw2]; exact (Fr.refl _ _).alloc _
  have hf3 : Fr (fun _ => False) w2 w3 := by rw [hw3]; exact (Fr.refl _ _).alloc _
  have hb3 : w3.heap[w.heap.size]? = some (.cells #[.slice none 0 0, .int .i64 0, .pointer (some ⟨w.heap.size + 1 + 1, 0, none⟩), .int .i64 0] 113 (0, 0)) :=
    hf3.get (hf2.get (by rw [hw1]; exact blk_new _ _) (fun e => e)) (fun e => e)
  have hm3 : SMapAt Tryz.prog 9 w3 (w.heap.size + 1) [] := by
    have h : SMapAt Tryz.prog 9 w2 w1.heap.size [] := by rw [hw2]; exact SMapAt.made w1
    rw [hz1] at h
    exact h.frame hf3 (fun e => e)
  have hr3 : w3.heap[w.heap.size + 1 + 1]? = some (.cells #[.int .i64 0, .int .i64 2, .int .i64 493, .int .i64 1, .int .i64 0, .slice none 0 0, .map (some (w.heap.size + 1)), .pointer none] 120 (0, 0)) := by rw [hw3, ← hz2]; exact blk_new _ _
  have hf03 := (hf1.trans hf2).trans hf3
  obtain ⟨rb, hrb⟩ : ∃ rb, rb = w.heap.size + 1 + 1 := ⟨_, rfl⟩
  rw [← hrb] at hr3 hb3
  rw [← hfb] at hb3
  obtain ⟨w4, hw4⟩ : ∃ w4, w4 = (w3.setCell ⟨rb, 7, none⟩ (.pointer (some ⟨rb, 0, none⟩))).drew := ⟨_, rfl⟩
  have hf34 : Fr (fun k => k = rb) w3 w4 := by rw [hw4]; exact (frSet _ _ _ _).drew
  have hr4 : w4.heap[rb]? = some (.cells #[.int .i64 0, .int .i64 2, .int .i64 493, .int .i64 1, .int .i64 0, .slice none 0 0, .map (some (w.heap.size + 1)), .pointer (some ⟨rb, 0, none⟩)] 120 (0, 0)) := by
    rw [hw4]; exact blk_drew (blk_set hr3 7 (.pointer (some ⟨rb, 0, none⟩)))
  have hb4 := hf34.get hb3 (by omega)
  have hsadd := fun X (hX : X = w4.drew) => sadd_any X fb rb (.slice none 0 0) 0 (.pointer (some ⟨rb, 0, none⟩)) (.int .i64 0) [] (by rw [hX]; exact blk_drew hb4) ⟨rfl, .inl ⟨rfl, rfl⟩⟩ (by decide) (by decide)
  have hsz4 : w4.heap.size = w3.heap.size := by rw [hw4]; simp [World.setCell]
  have hz3 : w3.heap.size = w.heap.size + 1 + 1 + 1 := by rw [hw3]; simp [hz2]
  have hfin := hide (show ∀ X e W, X = w4.drew → AddPost X fb rb (.slice none 0 0) 0 (.pointer (some ⟨rb, 0, none⟩)) (.int .i64 0) [] e W →
      e = .returned (.int .i64 1) ∧ W.cell? ⟨fb, 2, none⟩ = some (.pointer (some ⟨rb, 0, none⟩)) ∧ W.cell? ⟨rb, 0, none⟩ = some (.int .i64 0) ∧ W.frozen? ⟨rb, 0, none⟩ = false ∧ NewPost w (.returned (.pointer (some ⟨fb, 0, none⟩))) (W.setCell ⟨rb, 0, none⟩ (.int .i64 1)) from by
    rintro X e W hX ⟨rfl, lv', h1, h2, h3, h4⟩
    have hrX := blk_drew hr4
    rw [← hX] at hrX
    have hmX : SMapAt Tryz.prog 9 X (w.heap.size + 1) [] := by rw [hX]; exact (hm3.frame hf34 (by omega)).frame (Fr.refl (fun _ => False) _).drew (fun e => e)
    have hfX : Fr (fun k => k = rb) w3 X := by rw [hX]; exact hf34.drew
    have hrW := h3.get hrX (fun e => by (rcases e with e | e; omega; cases e))
    have hmW := hmX.frame h3 (fun e => by (rcases e with e | e; omega; cases e))
    have hszX : X.heap.size = w3.heap.size := by rw [hX]; exact hsz4
    have hlv : ∀ g, lv'.ownBlock = some g → rb < g := fun g e => by
      rcases h4 with h4 | h4
      · rw [h4] at e; cases e
      · rw [h4] at e
        have : X.heap.size + 1 = g := by simpa using e
        omega
    have hfs := frSet W rb 0 (.int .i64 1)
    refine ⟨rfl, by rw [blk_cell h1]; rfl, by rw [blk_cell hrW]; rfl, blk_frozen hrW 0, fb, fun _ => rb, rfl, ⟨fun _ => .slice none 0 0, fun _ => .map (some (w.heap.size + 1)), fun _ => .pointer (some ⟨rb, 0, none⟩), lv', ?_⟩, ?_⟩
    · have hl9 := own_frame h2 hfs (fun g e e2 => by have := hlv g e; omega)
      refine ⟨hfs.get h1 (by omega), hl9, ?_, ?_, ?_, ?_, by omega, fun g e => by have := hlv g e; omega, fun _ _ => by omega, ?_, ?_, fun k hk => ?_, ?_⟩
      · intro i n hn
        obtain ⟨rfl, rfl⟩ := newT_nd hn
        refine ⟨by rw [blk_set hrW]; rfl, .inl ⟨rfl, rfl⟩, fun _ => ⟨rfl, _, rfl, hmW.frame hfs (by omega)⟩, (fun e => by cases e), fun _ _ => rfl, ⟨_, rfl⟩, by decide⟩
      · intro i j hi hj _; rw [newT_some hi, newT_some hj]
      · intro i j g hi hj _ _; rw [newT_some hi, newT_some hj]
      · intro i j m hi hj _ _; rw [newT_some hi, newT_some hj]
      · intro i g _ e; cases e
      · intro i m _ e; cases e; omega
      · have := hf03.size; have := h3.size; have := hfs.size; omega
      · refine ⟨⟨rootN, rfl, rfl, rfl⟩, ?_, ?_, by decide, by decide, by decide, ?_⟩
        · intro i n hn q hq; obtain ⟨rfl, rfl⟩ := newT_nd hn; cases hq
        · intro i n hn _ _; obtain ⟨rfl, rfl⟩ := newT_nd hn; rfl
        · intro i n hn q hq; obtain ⟨rfl, rfl⟩ := newT_nd hn; cases hq
    · have hall : Fr (fun k => w.heap.size ≤ k) w (W.setCell ⟨rb, 0, none⟩ (.int .i64 1)) := (((hf03.mono (fun _ _ e => e.elim)).trans' hfX (fun k _ e => by omega)).trans' h3 (fun k _ e => by (rcases e with e | e; omega; cases e))).trans' hfs (fun k _ e => by omega)
      exact hall.mono (fun i hi e => by omega))
  have c32 : w3.drew.cell? ⟨fb, 2, none⟩ = some (.pointer (some ⟨rb, 0, none⟩)) := by rw [blk_cell (blk_drew hb3)]; rfl
  have z37 : w3.drew.frozen? ⟨rb, 7, none⟩ = false := blk_frozen (blk_drew hr3) 7
  have c37 : w3.drew.cell? ⟨rb, 7, none⟩ = some (.pointer none) := by rw [blk_cell (blk_drew hr3)]; rfl
  have c42 : w4.cell? ⟨fb, 2, none⟩ = some (.pointer (some ⟨rb, 0, none⟩)) := by rw [blk_cell hb4]; rfl
  have Hsadd := hide hsadd
  clear hsadd hf34 hr4 hb4 hb3 hm3 hr3 hf03 hf3 hf2 hf1 hz1 hz2 hz3 hsz4
  go_enter Tryz.func21, Tryz.ntmps21
  go_wp2_with fail
  rw [← hw1, ← hw2, ← hw3, ← hrb, ← hfb]
  clear hw1 hw2 hw3 hrb hfb
  refine region_tail 10 (by kernel_rfl) (by kernel_rfl) ?_
  simp only [List.take_succ_cons, List.take_zero, List.drop_succ_cons, List.drop_zero]
  repeat go_big_quiet_step (fail)
  refine wpQuiet_nil ?_
  go_wp2_with fail
  rw [← hw4]
  refine region_tree (fun W => W.cell? ⟨fb, 2, none⟩ = some (.pointer (some ⟨rb, 0, none⟩))) [0, 1, 2, 3, 4, 5, 6, 7, 8, 9, 10] 1 12 (by kernel_rfl) (by kernel_rfl) (fun _ _ d _ _ h => by cases d <;> exact h) c42 ?_
  simp only [List.map_cons, List.map_nil, List.getD_cons_zero, List.getD_cons_succ, List.drop_succ_cons, List.drop_zero]
  go_big_quiet_step (fail)
  refine wpQuiet_val (.pointer (some ⟨fb, 0, none⟩)) rfl (fun w' hS => by (go_simp)) ?_
  simp only [Act.put, List.setIfInBounds_toArray, List.set_cons_succ, List.set_cons_zero]
  refine wpQuiet_val (.pointer (some ⟨fb, 2, none⟩)) rfl (fun w' hS => by (go_simp)) ?_
  simp only [Act.put, List.setIfInBounds_toArray, List.set_cons_succ, List.set_cons_zero]
  refine wpQuiet_val (.pointer (some ⟨rb, 0, none⟩)) rfl (fun w' hS => by (go_simp)) ?_
  simp only [Act.put, List.setIfInBounds_toArray, List.set_cons_succ, List.set_cons_zero]
  go_big_quiet_step (fail)
  refine wpQuiet_val (.pointer (some ⟨fb, 0, none⟩)) rfl (fun w' hS => by (go_simp)) ?_
  simp only [Act.put, List.setIfInBounds_toArray, List.set_cons_succ, List.set_cons_zero]
  refine wpQuiet_val (.pointer (some ⟨fb, 0, none⟩)) rfl (fun w' hS => by (go_simp)) ?_
  simp only [Act.put, List.setIfInBounds_toArray, List.set_cons_succ, List.set_cons_zero]
  go_big_quiet_step (fail)
  refine wpQuiet_val (.pointer (some ⟨fb, 0, none⟩)) rfl (fun w' hS => by (go_simp)) ?_
  simp only [Act.put, List.setIfInBounds_toArray, List.set_cons_succ, List.set_cons_zero]
  refine wpQuiet_val (.pointer (some ⟨fb, 2, none⟩)) rfl (fun w' hS => by (go_simp)) ?_
  simp only [Act.put, List.setIfInBounds_toArray, List.set_cons_succ, List.set_cons_zero]
  refine wpQuiet_val (.pointer (some ⟨rb, 0, none⟩)) rfl (fun w' hS => by (go_simp)) ?_
  simp only [Act.put, List.setIfInBounds_toArray, List.set_cons_succ, List.set_cons_zero]
  refine wpQuiet_nil ?_
  refine tree_one' 11 (by kernel_rfl) (by decide) (by simp) rfl (fun K hK => ?_)
  simp only [List.getD_cons_zero, List.getD_cons_succ]
  clear hw4
  go_wp2_with fail
  refine (Hsadd.out _ rfl).mono ?_
  rintro e w5 hpost
  obtain ⟨rfl, h52, h50, hz5, hnew⟩ := hfin.out _ _ _ rfl hpost
  refine hK _ _ h52 ?_
  clear hK K hpost hfin Hsadd
  refine tree_end (by kernel_rfl) ?_
  have Hnew := hide hnew
  clear hnew
  try simp only [Act.put, List.setIfInBounds_toArray, List.set_cons_succ, List.set_cons_zero, List.drop_succ_cons, List.drop_zero]
  go_wp2_with fail
  go_ret
  exact Hnew.out
def capT (k : Nat) (σ : FSt) : Bool := σ.all fun o => match o with | none => true | some n => decide (n.links ≤ k) && decide (n.holds ≤ k) && decide (n.ents.length ≤ k)
theorem caps_of {σ : FSt} {k : Nat} (h : capT k σ = true) : Caps σ k := by
  intro i n hn
  obtain ⟨h0, hl⟩ := FSt.nd_lt (show (σ.nd i).isSome = true by rw [hn]; rfl)
  rw [FSt.nd_at h0 (by omega)] at hn
  have := List.all_eq_true.1 h _ (List.getElem_mem (by omega : i - 1 < σ.length))
  rw [hn] at this
  simp only [Bool.and_eq_true, decide_eq_true_eq] at this
  exact ⟨this.1.1, this.1.2, this.2⟩
theorem Caps.mono {σ : FSt} {k l : Nat} (h : Caps σ k) (hkl : k ≤ l) : Caps σ l := fun i n hn => by have := h i n hn; omega
theorem Caps.b {σ : FSt} {k : Nat} (h : Caps σ k) (hk : k ≤ 1000000) : CapB σ := h.mono (by omega)
theorem Ml.below {w w' : World} (h : Ml w) (hf : Fr (fun _ => False) w w') : Ml w' := h.frame hf (fun e => e)
end Go.Proofs.YtdnbfhcbcdodmaaGreatDoor
