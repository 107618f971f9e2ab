/- files.FS.Truncate, Write, Bytes. Conditions: the contracts' own premises. -/
import Derived.Test.YtlhmmiolnbgloaaGreatDoorFilesN
import Derived.Lib.BufferWrite
namespace Go.Proofs.YtlhmmiolnbgloaaGreatDoor
open Go.RowKit

/-- So it answers, and so it leaves. -/
def MutPost (f : Nat) (σ' : FSt) (S : Nat → Prop) (p : Nat → Nat) (v : Value) (w : World) (e : Ending) (w' : World) : Prop := e = .returned v ∧ FilesAt w' f σ' S p ∧ Fr S w w'
theorem MutPost.still {f : Nat} {σ : FSt} {S : Nat → Prop} {p : Nat → Nat} {v : Value} {w w' : World} (h : FilesAt w f σ S p) (hf : Fr (fun _ => False) w w') : MutPost f σ S p v w (.returned v) w' := ⟨rfl, h.frame hf (fun _ _ _ e => e), hf.mono (fun _ _ e => e.elim)⟩
theorem ndI_nat {σ : FSt} {k : Nat} {n : Nd} (h : σ.nd k = some n) : σ.ndI (k : Int) = some n := by
  unfold FSt.ndI
  obtain ⟨h0, _⟩ := FSt.nd_lt (show (σ.nd k).isSome = true by rw [h]; rfl)
  rw [if_pos (by omega)]
  simpa using h
def fits (σ : FSt) (n : Nd) (m : Nat) : Prop := σ.byts + m ≤ 65536 + n.data.length
instance (σ : FSt) (n : Nd) (m : Nat) : Decidable (fits σ n m) := by unfold fits; infer_instance
def truncR (σ : FSt) (i n : Int) : Int × FSt :=
  match σ.ndI i with
  | none => (9, σ)
  | some nd => if nd.d then (21, σ) else if n < 0 then (22, σ) else if 65536 < n then (28, σ) else if fits σ nd n.toNat then (0, sizeS σ i.toNat nd n.toNat) else (28, σ)
theorem fileE_cases {σ : FSt} {i : Int} (h : fileE σ i ≠ 0) : (σ.ndI i = none ∧ fileE σ i = 9) ∨ ∃ n, σ.ndI i = some n ∧ n.d = true ∧ fileE σ i = 21 := by
  cases hn : σ.ndI i with
  | none => exact .inl ⟨rfl, by unfold fileE; rw [hn]⟩
  | some n =>
    cases hd : n.d with
    | true => exact .inr ⟨n, rfl, hd, by unfold fileE; rw [hn]; simp [hd]⟩
    | false => exact absurd (by unfold fileE; rw [hn]; simp [hd]) h
theorem truncR_err {σ : FSt} {i n : Int} (h : fileE σ i ≠ 0) : truncR σ i n = (fileE σ i, σ) := by
  rcases fileE_cases h with ⟨h1, h2⟩ | ⟨m, h1, h2, h3⟩
  · unfold truncR; rw [h1, h2]
  · unfold truncR; rw [h1, h3]; simp [h2]
def overwrite (l : List UInt8) (a : Nat) (s : List UInt8) : List UInt8 := l.take a ++ s ++ l.drop (a + s.length)
theorem overwrite_length {l : List UInt8} {a : Nat} {s : List UInt8} (h : a + s.length ≤ l.length) : (overwrite l a s).length = l.length := by
  unfold overwrite
  simp
  omega
/-- Written over. -/
def overS' (σ : FSt) (i : Nat) (n : Nd) (a : Nat) (s : List UInt8) : FSt := σ.put i (some { n with data := overwrite n.data a s })
theorem overS_live {σ : FSt} {i : Nat} {n : Nd} (h : Live σ) (hn : σ.nd i = some n) (hd : n.d = false) {a : Nat} {s : List UInt8} (hl : a + s.length ≤ n.data.length) : Live (overS' σ i n a s) := by
  have hb : (overS' σ i n a s).byts = σ.byts := by
    have := FSt.byts_put hn (some { n with data := overwrite n.data a s })
    rw [show ndLen (some { n with data := overwrite n.data a s }) = n.data.length from overwrite_length hl] at this
    unfold overS'
    omega
  refine h.put hn rfl ?_ (h.ents i n hn) (fun e => by rw [hd] at e; cases e) ?_ (h.names i n hn)
  · intro e
    obtain ⟨r, h1, h2, _⟩ := h.root
    subst e
    rw [hn] at h1
    cases h1
    rw [hd] at h2
    cases h2
  · show (overS' σ i n a s).byts ≤ 65536
    rw [hb]; exact h.byts
theorem DataV.over {w : World} {g cap : Nat} {l s : List UInt8} {a : Nat} (h : DataV w (.slice (some ⟨g, 0, none⟩) l.length cap) l) (hl : a + s.length ≤ l.length) :
    ∃ cur, w.heap[g]? = some (.cells cur 5 (0, 0)) ∧ l.length ≤ cap ∧ cap ≤ cur.size ∧ DataV (w.setRow g (cur.toList.take a ++ byteV s ++ cur.toList.drop (a + s.length)).toArray) (.slice (some ⟨g, 0, none⟩) l.length cap) (overwrite l a s) := by
  rcases h with ⟨e, _⟩ | ⟨g', cap', cur, e, hg, hc1, hc2, hcur⟩
  · cases e
  · cases e
    refine ⟨cur, hg, hc1, hc2, .inr ⟨g, cap, _, by rw [overwrite_length hl], setRow_heap w g cur _ _ _ hg, by rw [overwrite_length hl]; exact hc1, ?_, ?_⟩⟩
    · simp [byteV]; omega
    · rw [overwrite_length hl]
      have e0 : cur.toList = cur.toList.take l.length ++ cur.toList.drop l.length := (List.take_append_drop _ _).symm
      have e1 : cur.toList.take a = (l.take a).map fun c => Value.int .u8 c.toNat := by
        rw [List.map_take, ← hcur, List.take_take, Nat.min_eq_left (by omega)]
      have e2 : (cur.toList.drop (a + s.length)).take (l.length - (a + s.length)) = (l.drop (a + s.length)).map fun c => Value.int .u8 c.toNat := by
        rw [List.map_drop, ← hcur, List.drop_take]
      unfold overwrite
      rw [List.map_append, List.map_append, ← e1, ← e2]
      have h3 : (cur.toList.take a).length = a := by simp; omega
      rw [List.take_append, List.take_of_length_le (by simp [byteV, h3]; omega)]
      congr 1
      simp [byteV, h3]
def writeR (σ : FSt) (i a : Int) (s : List UInt8) : Int × Int × FSt :=
  match σ.ndI i with
  | none => (0, 9, σ)
  | some nd =>
    if nd.d then (0, 21, σ) else if a < 0 then (0, 22, σ) else if 65536 < a ∨ 65536 < s.length then (0, 28, σ) else if s = [] then (0, 0, σ)
    else if fits σ nd (max nd.data.length (a.toNat + s.length)) then (((s.length : Nat) : Int), 0, overS' (sizeS σ i.toNat nd (max nd.data.length (a.toNat + s.length))) i.toNat { nd with data := resize nd.data (max nd.data.length (a.toNat + s.length)) } a.toNat s)
    else (0, 28, σ)
theorem writeR_err {σ : FSt} {i a : Int} {s : List UInt8} (h : fileE σ i ≠ 0) : writeR σ i a s = (0, fileE σ i, σ) := by
  rcases fileE_cases h with ⟨h1, h2⟩ | ⟨m, h1, h2, h3⟩
  · unfold writeR; rw [h1, h2]
  · unfold writeR; rw [h1, h3]; simp [h2]
theorem cut_l {g n cap a : Nat} (ha : a < n) (hn : n ≤ cap) : ∀ w', (Instr.sliceAt 63 (.slice (some ⟨g, 0, none⟩) n cap) (some (.int .i64 a)) none none).run Tryz.prog w' = .ok (.slice (some ⟨g, a, none⟩) (n - a) (cap - a)) w' := by
  intro w'
  have hsz : ∀ w', (sizeOf 5).run Tryz.prog w' = .ok 1 w' := fun w' => by kernel_rfl
  have he : Tryz.prog.elem 63 = 5 := by kernel_rfl
  have ht : Tryz.prog.underlying 63 = some (.slice (Tryz.prog.elem 63)) := by kernel_rfl
  rw [run_sliceAt_slice (h := ht), run_slice_l (ht := ht) (h0 := by omega) (h1 := by omega), he, hsz]
  have e2 : ((a : Int)).toNat = a := by omega
  simp only [Result.andThen_ok, sliced, e2, Nat.mul_one, Option.map_some]
  rw [if_neg (by omega)]
  have hadd : (⟨g, 0, none⟩ : Addr).add a = ⟨g, a, none⟩ := by unfold Addr.add; split <;> simp_all
  rw [hadd]
theorem wpList_copy_run {P : Program} (w : World) {ops : Array Oper} {rest : List Oper} {o : Oper} {a : Act} {Q : Exit → Act → World → Prop} (hgd : o.guard = none) (d s : Operand) (t t' : TypeId)
    (ho : o.op = .call { callee := .builtin .copy, args := #[d, s], argTypes := #[t, t'] }) (v u : Value) (hd : a.eval d = v) (hs : a.eval s = u) {v' : Value} {w' : World}
    (hr : (Builtin.copy_ #[t, t'] o.type #[v, u]).run P w = .ok v' w') (h : wpList P ops Q rest (a.put o.dst v') w') : wpList P ops Q (o :: rest) a w := by
  refine wpList_plain hgd fun _ hK => ?_
  unfold Oper.wp execOp
  simp only [ho, resolve, invoke, builtin, Sem.run_bind, Sem.run_pure, Result.andThen_ok, List.map_toArray, List.map_cons, List.map_nil, hd, hs, hr]
  exact hK _ _ h
end Go.Proofs.YtlhmmiolnbgloaaGreatDoor

/- The tree of files as plain data: an entry more, an inode more. No program in sight; no condition. -/
namespace Go.Proofs.YtlhmmiolnbgloaaGreatDoor
open Go.RowKit

def openS (σ : FSt) (a : Nat) (nm : List UInt8) : Int := match σ.nd a with | none => 2 | some n => openE n nm
/-- The entry of that name in an inode. -/
def lookS (σ : FSt) (a : Nat) (nm : List UInt8) : Option Nat := match σ.nd a with | none => none | some n => kget nm n.ents
def entS (σ : FSt) (a : Nat) (f : KA Nat → KA Nat) : FSt := match σ.nd a with | none => σ | some n => σ.put a (some { n with ents := f n.ents })
def linkS (σ : FSt) (a : Nat) (nm : List UInt8) (k : Nat) : FSt := entS σ a (kput nm k)
def cutS (σ : FSt) (a : Nat) (nm : List UInt8) : FSt := entS σ a (kdel nm)
def newNd (d : Bool) (m : Int) (a : Nat) : Nd := ⟨d, modeN m, 1, 0, [], [], a⟩
def addE (σ : FSt) (dir : Int) (s : List UInt8) (d : Bool) : Int :=
  if (aheadE σ dir s).1 ≠ 0 then (aheadE σ dir s).1
  else if slashS s = true ∧ d = false then 21
  else if openS σ (aheadE σ dir s).2.1 (aheadE σ dir s).2.2 ≠ 0 then openS σ (aheadE σ dir s).2.1 (aheadE σ dir s).2.2
  else if 100 ≤ σ.cnt then 23 else 0
def addS (σ : FSt) (dir : Int) (s : List UInt8) (d : Bool) (m : Int) : FSt := linkS (σ.add (newNd d m (aheadE σ dir s).2.1)) (aheadE σ dir s).2.1 (aheadE σ dir s).2.2 σ.free
def makeR (σ : FSt) (dir : Int) (s : List UInt8) (d : Bool) (m : Int) : Int × FSt := if addE σ dir s d ≠ 0 then (addE σ dir s d, σ) else (0, addS σ dir s d m)
def createR (σ : FSt) (dir : Int) (s : List UInt8) (m : Int) : Int × Int × FSt := (if addE σ dir s false ≠ 0 then 0 else (σ.free : Int), makeR σ dir s false m)
/-- No count is great. -/
def Caps (σ : FSt) (k : Nat) : Prop := ∀ i n, σ.nd i = some n → n.links ≤ k ∧ n.holds ≤ k ∧ n.ents.length ≤ k
def CapB (σ : FSt) : Prop := Caps σ 1000000000000
theorem FSt.add_same (σ : FSt) (n : Nd) : (σ.add n).nd σ.free = some n := by rw [FSt.nd_add, if_pos rfl]
theorem FSt.add_other {σ : FSt} {i : Nat} (h : (σ.nd i).isSome = true) (n : Nd) : (σ.add n).nd i = σ.nd i := by
  rw [FSt.nd_add, if_neg]
  rintro rfl
  rw [FSt.nd_free] at h
  cases h
theorem entS_some {σ : FSt} {a : Nat} {n : Nd} (h : σ.nd a = some n) (f : KA Nat → KA Nat) : entS σ a f = σ.put a (some { n with ents := f n.ents }) := by unfold entS; rw [h]
theorem Live.ent {σ : FSt} (h : Live σ) {a : Nat} {n : Nd} (hn : σ.nd a = some n) (f : KA Nat → KA Nat) (he : ∀ q ∈ f n.ents, (σ.nd q.2).isSome = true ∧ q.1.length ≤ 32) : Live (entS σ a f) := by
  rw [entS_some hn]
  refine h.put hn rfl (fun e => ?_) (fun q hq => (he q hq).1) (h.par a n hn) ?_ (fun q hq => (he q hq).2)
  · obtain ⟨r, h1, _, h2⟩ := h.root
    subst e
    rw [hn] at h1
    cases h1
    exact h2
  · have h1 := FSt.byts_put hn (some { n with ents := f n.ents })
    have h2 := h.byts
    simp only [ndLen] at h1
    omega
theorem Live.link {σ : FSt} (h : Live σ) {a k : Nat} {n : Nd} (hn : σ.nd a = some n) {nm : List UInt8} (hnm : nm.length ≤ 32) (hk : (σ.nd k).isSome = true) : Live (linkS σ a nm k) :=
  h.ent hn _ fun q hq => by
    rcases kput_mem hq with rfl | hq
    · exact ⟨hk, hnm⟩
    · exact ⟨h.ents a n hn q hq, h.names a n hn q hq⟩
theorem Live.cut {σ : FSt} (h : Live σ) {a : Nat} {n : Nd} (hn : σ.nd a = some n) (nm : List UInt8) : Live (cutS σ a nm) :=
  h.ent hn _ fun q hq => ⟨h.ents a n hn q (List.mem_filter.1 hq).1, h.names a n hn q (List.mem_filter.1 hq).1⟩
end Go.Proofs.YtlhmmiolnbgloaaGreatDoor

/- The tree of files in memory: an inode more; an inode's entries changed. Conditions: the laws' own premises. -/
namespace Go.Proofs.YtlhmmiolnbgloaaGreatDoor
open Go.RowKit

theorem Live.one_ne_free {σ : FSt} (h : Live σ) : (1 : Nat) ≠ σ.free := by
  obtain ⟨r, hr, _⟩ := h.root
  intro e
  rw [e, FSt.nd_free] at hr
  cases hr
theorem Live.ne_free {σ : FSt} {i : Nat} (h : (σ.nd i).isSome = true) : i ≠ σ.free := by
  rintro rfl
  rw [FSt.nd_free] at h
  cases h
/-- An inode more. -/
theorem FilesF.added {w w' : World} {f : Nat} {σ : FSt} {S : Nat → Prop} {p : Nat → Nat} {dv ev pv : Nat → Value} {lv lv' : Value} (h : FilesF w f σ S p dv ev pv lv) {T : Nat → Prop} (hf : Fr T w w') {nb : Nat} {n : Nd} {ev' pv' : Value}
    (hT : ∀ k, T k → k = f ∨ lv.ownBlock = some k ∨ ¬ S k ∨ w.heap.size ≤ k)
    (hb : w'.heap[f]? = some (.cells #[lv', .int .i64 (σ.add n).cnt, .pointer (some ⟨p 1, 0, none⟩), .int .i64 (σ.add n).byts] 77 (0, 0)))
    (hl : w'.ownsRow 0 56 1 lv' (σ.add n).length (slotV (upd p σ.free nb) (σ.add n)))
    (hlv : ∀ g, lv'.ownBlock = some g → S g) (hnb : ¬ S nb)
    (hnd : NodeF w' (upd p σ.free nb) nb σ.free n (.slice none 0 0) ev' pv') (hev : ∀ m, ev' = .map (some m) → ¬ S m) (hlive : Live (σ.add n)) :
    FilesF w' f (σ.add n) (fun k => S k ∨ k = nb ∨ ev' = .map (some k)) (upd p σ.free nb) (upd dv σ.free (.slice none 0 0)) (upd ev σ.free ev') (upd pv σ.free pv') lv' := by
  have hlo := h.live
  have hadd := FSt.nd_add σ n
  have back : ∀ j, ((σ.add n).nd j).isSome = true → j ≠ σ.free → (σ.nd j).isSome = true := fun j hj hne => by rw [hadd, if_neg hne] at hj; exact hj
  have old : ∀ j m, σ.nd j = some m → j ≠ σ.free := fun j m hj => Live.ne_free (by rw [hj]; rfl)
  have hother : ∀ j m, σ.nd j = some m → NodeF w' (upd p σ.free nb) (p j) j m (dv j) (ev j) (pv j) := fun j m hj => by
    have hnj := h.nd j m hj
    have hsj : (σ.nd j).isSome = true := by rw [hj]; rfl
    refine (hnj.frame hf (fun ht => ?_) (fun g e ht => ?_) (fun mb e ht => ?_)).reptr (fun q hq => upd_other (Live.ne_free (hlo.ents j m hj q hq))) (fun hd hlk => upd_other (Live.ne_free (hlo.par j m hj hd hlk)))
    · rcases hT _ ht with e2 | e2 | e2 | e2
      · exact cells_ne hnj.hb (e2 ▸ h.hb) (by decide) rfl
      · obtain ⟨c2, hc2⟩ := h.lv_blk e2
        exact cells_ne hnj.hb hc2 (by decide) rfl
      · exact e2 (h.ownn j hsj)
      · have := blk_lt hnj.hb; omega
    · obtain ⟨c, hc⟩ := hnj.data.blk e
      rcases hT _ ht with e2 | e2 | e2 | e2
      · exact cells_ne hc (e2 ▸ h.hb) (by decide) rfl
      · obtain ⟨c2, hc2⟩ := h.lv_blk e2
        exact cells_ne hc hc2 (by decide) rfl
      · exact e2 (h.ownd j g hsj e)
      · have := blk_lt hc; omega
    · obtain ⟨es, clock, hm⟩ := hnj.map_blk e
      rcases hT _ ht with e2 | e2 | e2 | e2
      · rw [e2, h.hb] at hm; cases hm
      · obtain ⟨c2, hc2⟩ := h.lv_blk e2
        rw [hc2] at hm; cases hm
      · exact e2 (h.owne j mb hsj e)
      · have := blk_lt hm; omega
  refine ⟨by rw [upd_other hlo.one_ne_free]; exact hb, hl, ?_, ?_, ?_, ?_, .inl h.own, fun g e => .inl (hlv g e), ?_, ?_, ?_, fun k hk => .inl (h.up k (Nat.le_trans hf.size hk)), hlive⟩
  · intro j m hj
    rw [hadd] at hj
    by_cases e : j = σ.free
    · rw [if_pos e] at hj
      cases hj
      subst e
      rw [upd_same, upd_same, upd_same, upd_same]
      exact hnd
    · rw [if_neg e] at hj
      rw [upd_other e, upd_other e, upd_other e, upd_other e]
      exact hother j m hj
  · intro i j hi hj e
    by_cases a1 : i = σ.free <;> by_cases a2 : j = σ.free
    · rw [a1, a2]
    · rw [a1, upd_same, upd_other a2] at e
      exact absurd (e ▸ h.ownn j (back j hj a2)) hnb
    · rw [a2, upd_same, upd_other a1] at e
      exact absurd (e ▸ h.ownn i (back i hi a1)) hnb
    · rw [upd_other a1, upd_other a2] at e
      exact h.inj i j (back i hi a1) (back j hj a2) e
  · intro i j g hi hj e1 e2
    have n1 : i ≠ σ.free := by rintro rfl; rw [upd_same] at e1; cases e1
    have n2 : j ≠ σ.free := by rintro rfl; rw [upd_same] at e2; cases e2
    rw [upd_other n1] at e1
    rw [upd_other n2] at e2
    exact h.injd i j g (back i hi n1) (back j hj n2) e1 e2
  · intro i j m hi hj e1 e2
    by_cases a1 : i = σ.free <;> by_cases a2 : j = σ.free
    · rw [a1, a2]
    · rw [a1, upd_same] at e1
      rw [upd_other a2] at e2
      exact absurd (h.owne j m (back j hj a2) e2) (hev m e1)
    · rw [a2, upd_same] at e2
      rw [upd_other a1] at e1
      exact absurd (h.owne i m (back i hi a1) e1) (hev m e2)
    · rw [upd_other a1] at e1
      rw [upd_other a2] at e2
      exact h.inje i j m (back i hi a1) (back j hj a2) e1 e2
  · intro i hi
    by_cases a1 : i = σ.free
    · rw [a1, upd_same]; exact .inr (.inl rfl)
    · rw [upd_other a1]; exact .inl (h.ownn i (back i hi a1))
  · intro i g hi e
    have n1 : i ≠ σ.free := by rintro rfl; rw [upd_same] at e; cases e
    rw [upd_other n1] at e
    exact .inl (h.ownd i g (back i hi n1) e)
  · intro i m hi e
    by_cases a1 : i = σ.free
    · rw [a1, upd_same] at e; exact .inr (.inr e)
    · rw [upd_other a1] at e; exact .inl (h.owne i m (back i hi a1) e)
theorem entS_byts {σ : FSt} {a : Nat} {n : Nd} (hn : σ.nd a = some n) (g : KA Nat → KA Nat) : (σ.put a (some { n with ents := g n.ents })).byts = σ.byts := by
  have h1 := FSt.byts_put hn (some { n with ents := g n.ents })
  simp only [ndLen] at h1
  omega
/-- An inode's entries changed. -/
theorem FilesF.ented {w w' : World} {f : Nat} {σ : FSt} {S : Nat → Prop} {p : Nat → Nat} {dv ev pv : Nat → Value} {lv : Value} (h : FilesF w f σ S p dv ev pv lv) {a mb : Nat} {n : Nd} (hn : σ.nd a = some n) (hd : n.d = true) (hev : ev a = .map (some mb)) (g : KA Nat → KA Nat)
    (hf : Fr (fun k => k = mb) w w') (hm : SMapAt Tryz.prog 9 w' mb (kmap (fun _ k => .pointer (some ⟨p k, 0, none⟩)) (g n.ents))) (hlive : Live (entS σ a g)) : FilesAt w' f (entS σ a g) S p := by
  have hN := h.nd a n hn
  obtain ⟨es, clock, hmb⟩ := hN.map_blk hev
  rw [entS_some hn] at hlive ⊢
  refine ⟨_, _, _, _, h.changed hf hn (n' := { n with ents := g n.ents }) (fun k hk => .inr (.inr (.inr (by rw [hk]; exact hev)))) ?_ ⟨hf.get hN.hb ?_, ?_, fun _ => ⟨(hN.dir hd).1, mb, hev, hm⟩, fun e => absurd (hd.symm.trans e) (by decide), hN.par, hN.ptr, hN.md⟩ (fun g e => .inl e) (fun m e => e) hlive⟩
  · rw [entS_byts hn]
    refine hf.get h.hb ?_
    rintro rfl
    rw [h.hb] at hmb; cases hmb
  · intro e
    rw [← e, hN.hb] at hmb; cases hmb
  · refine hN.data.frame hf (fun b e e2 => ?_)
    obtain ⟨c, hc⟩ := hN.data.blk e
    rw [← e2, hc] at hmb; cases hmb
def slotL (p : Nat → Nat) (σ : FSt) : List (Option Nat) := σ.mapIdx fun k o => o.map fun _ => p (k + 1)
theorem slotL_enc (p : Nat → Nat) (σ : FSt) : (slotL p σ).map encP = slotV p σ := by
  unfold slotL slotV
  apply List.ext_getElem
  · simp
  · intro k h1 h2
    simp only [List.getElem_map, List.getElem_mapIdx]
    cases σ[k]'(by simpa using h2) <;> rfl
theorem slotL_length (p : Nat → Nat) (σ : FSt) : (slotL p σ).length = σ.length := by simp [slotL]
theorem slotL_free (p : Nat → Nat) (σ : FSt) : freeI (slotL p σ) = σ.findIdx (·.isNone) := by
  have h1 : freeI (slotL p σ) = ((slotL p σ).map (·.isNone)).findIdx id := by unfold freeI; rw [List.findIdx_map]; rfl
  have h2 : σ.findIdx (·.isNone) = (σ.map (·.isNone)).findIdx id := by rw [List.findIdx_map]; rfl
  rw [h1, h2]
  congr 1
  apply List.ext_getElem
  · simp [slotL]
  · intro k h1 h2
    simp only [List.getElem_map, slotL, List.getElem_mapIdx]
    cases σ[k]'(by simpa using h2) <;> rfl
theorem slotL_add (p : Nat → Nat) (σ : FSt) (nb : Nat) (n : Nd) : (addI (slotL p σ) nb).map encP = slotV (upd p σ.free nb) (σ.add n) ∧ (addI (slotL p σ) nb).length = (σ.add n).length := by
  have hle : σ.findIdx (·.isNone) ≤ σ.length := List.findIdx_le_length
  rw [← slotL_enc]
  have key : addI (slotL p σ) nb = slotL (upd p σ.free nb) (σ.add n) := by
    unfold addI FSt.add
    rw [slotL_free, slotL_length]
    by_cases h : σ.findIdx (·.isNone) < σ.length
    · rw [if_pos h, if_pos h]
      apply List.ext_getElem
      · simp [slotL]
      · intro k h1 h2
        simp only [slotL, List.getElem_set, List.getElem_mapIdx]
        by_cases e : σ.findIdx (·.isNone) = k
        · rw [if_pos e, if_pos e]
          simp only [Option.map_some]
          rw [show k + 1 = σ.free by unfold FSt.free; omega, upd_same]
        · rw [if_neg e, if_neg e, upd_other (by unfold FSt.free; omega)]
    · rw [if_neg h, if_neg h]
      apply List.ext_getElem
      · simp [slotL]
      · intro k h1 h2
        simp only [slotL, List.getElem_mapIdx]
        by_cases e : k < σ.length
        · rw [List.getElem_append_left (by simpa using e), List.getElem_append_left e, List.getElem_mapIdx, upd_other (by unfold FSt.free; omega)]
        · have e2 : k = σ.length := by rw [slotL_length, List.length_append] at h2; simp only [List.length_cons, List.length_nil] at h2; omega
          subst e2
          rw [List.getElem_append_right (by simp), List.getElem_append_right (by simp)]
          simp only [List.getElem_singleton, Option.map_some]
          rw [show σ.length + 1 = σ.free by unfold FSt.free; omega, upd_same]
  refine ⟨by rw [key], ?_⟩
  rw [key, slotL_length]
end Go.Proofs.YtlhmmiolnbgloaaGreatDoor
