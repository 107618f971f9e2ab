/- The kernel in memory: what each change of a part makes of the whole. Conditions: each law's own premises. -/
import Derived.Test.YtdnbfhcbcdodmaaGreatDoorKerF
import Derived.Test.YtdnbfhcbcdodmaaGreatDoorStrs
import Derived.BigQuiet
import Derived.StillTailTactics
namespace Go.Proofs.YtdnbfhcbcdodmaaGreatDoor
open Go.RowKit

section
variable {w w' : World} {k : Nat} {K : KQ} {L L' : KLay} {T : Nat → Prop}
theorem tag_off (h : KF w k K L) {t t0 : Nat × Nat} {T : Nat → Prop} (hT : ∀ b, b < w.heap.size → T b → L.o b = some t0) (hne : t ≠ t0) {b : Nat} (e : L.o b = some t) : ¬ T b := fun e2 => by
  have := hT b (h.lt e) e2
  rw [this] at e
  exact hne (Option.some.inj e).symm
/-- A description's own cells have turned. -/
theorem KF.descU (h : KF w k K L) {i : Nat} (h1 : 1 ≤ i) (h2 : i ≤ K.dn) {d : DescQ} (hf : Fr (fun b => b = L.db i) w w') (hb : w'.heap[L.db i]? = some (.cells (descC L i d) 84 (0, 0))) (hi : d.inn = (K.desc i).inn) : KF w' k (K.setD i d) L := by
  have hT : ∀ b, b < w.heap.size → b = L.db i → L.o b = some (tDsc i) := fun b _ e => e ▸ h.od i h1 h2
  have off : ∀ {t : Nat × Nat}, t ≠ tDsc i → ∀ {b : Nat}, L.o b = some t → ¬ b = L.db i := fun hne b e => tag_off h hT hne e
  exact
    { hk := hf.get h.hk (off (by simp) h.ok)
      files := h.files_keep hf (.refl h hf) fun b _ e => off (by simp) e
      pr := h.pr.frame hf fun g e => off (by simp) (h.opm g e)
      dr := (h.dr.frame hf fun g e => off (by simp) (h.odm g e)).congr fun j _ _ => ⟨by show _ = (if j = i then d else K.desc j).inn; by_cases e : j = i; (· rw [if_pos e, e, hi]); (· rw [if_neg e]), rfl⟩
      qr := h.qr.frame hf fun g e => off (by simp) (h.oqm g e)
      hd := fun j g1 g2 => by
        show w'.heap[L.db j]? = some (Obj.cells (descC L j (if j = i then d else K.desc j)) 84 (0, 0))
        by_cases e : j = i
        · rw [if_pos e, e]; exact hb
        · rw [if_neg e]; exact hf.get (h.hd j g1 g2) (off (by simp [e]) (h.od j g1 g2))
      hq := fun j g1 g2 => hf.get (h.hq j g1 g2) (off (by simp) (h.oq j g1 g2))
      ht := fun j g1 g2 => h.tab_keep hf (.refl h hf) g1 g2 fun b _ e => off (by simp) e
      hp := fun j g1 g2 => h.pipe_keep hf g1 g2 fun b e => off (by simp) e
      ok := h.ok, opm := h.opm, odm := h.odm, oqm := h.oqm, od := h.od, oq := h.oq, op := h.op
      new := fun b hb => h.new b (Nat.le_trans hf.size hb) }
/-- A process's own cells have turned. -/
theorem KF.procU (h : KF w k K L) {i : Nat} (h1 : 1 ≤ i) (h2 : i ≤ K.qn) {q : ProcQ} (hf : Fr (fun b => b = L.qb i) w w') (hb : w'.heap[L.qb i]? = some (.cells (procC L i q) 76 (0, 0))) (hi : q.inn = (K.proc i).inn) (hs : q.fds = (K.proc i).fds) : KF w' k (K.setQ i q) L := by
  have hT : ∀ b, b < w.heap.size → b = L.qb i → L.o b = some (tPrc i) := fun b _ e => e ▸ h.oq i h1 h2
  have off : ∀ {t : Nat × Nat}, t ≠ tPrc i → ∀ {b : Nat}, L.o b = some t → ¬ b = L.qb i := fun hne b e => tag_off h hT hne e
  exact
    { hk := hf.get h.hk (off (by simp) h.ok)
      files := h.files_keep hf (.refl h hf) fun b _ e => off (by simp) e
      pr := h.pr.frame hf fun g e => off (by simp) (h.opm g e)
      dr := h.dr.frame hf fun g e => off (by simp) (h.odm g e)
      qr := (h.qr.frame hf fun g e => off (by simp) (h.oqm g e)).congr fun j _ _ => ⟨by show _ = (if j = i then q else K.proc j).inn; by_cases e : j = i; (· rw [if_pos e, e, hi]); (· rw [if_neg e]), rfl⟩
      hd := fun j g1 g2 => hf.get (h.hd j g1 g2) (off (by simp) (h.od j g1 g2))
      hq := fun j g1 g2 => by
        show w'.heap[L.qb j]? = some (Obj.cells (procC L j (if j = i then q else K.proc j)) 76 (0, 0))
        by_cases e : j = i
        · rw [if_pos e, e]; exact hb
        · rw [if_neg e]; exact hf.get (h.hq j g1 g2) (off (by simp [e]) (h.oq j g1 g2))
      ht := fun j g1 g2 => by
        show TabAt w' (L.tb j) (tabS L (if j = i then q else K.proc j).fds) _
        have := h.tab_keep hf (.refl h hf) g1 g2 fun b _ e => off (by simp) e
        by_cases e : j = i
        · rw [if_pos e, hs, ← e]; exact this
        · rw [if_neg e]; exact this
      hp := fun j g1 g2 => h.pipe_keep hf g1 g2 fun b e => off (by simp) e
      ok := h.ok, opm := h.opm, odm := h.odm, oqm := h.oqm, od := h.od, oq := h.oq, op := h.op
      new := fun b hb => h.new b (Nat.le_trans hf.size hb) }
/-- A pipe has turned. -/
theorem KF.pipeU (h : KF w k K L) {i : Nat} (h1 : 1 ≤ i) (h2 : i ≤ K.pn) {p : PipeQ} {fm : Nat} {cs : Array Value} (hf : Fr (fun b => b = L.pb i ∨ b = L.lb i) w w') (hA : PipeF w' (L.pb i) (L.lb i) 64 fm p.data p.r p.x cs) (hi : p.inn = (K.pipe i).inn) : KF w' k (K.setP i p) L := by
  have hT : ∀ b, b < w.heap.size → (b = L.pb i ∨ b = L.lb i) → L.o b = some (tPip i) := fun b _ e => by
    rcases e with e | e
    · rw [e]; exact (h.op i h1 h2).1
    · rw [e]; exact (h.op i h1 h2).2
  have off : ∀ {t : Nat × Nat}, t ≠ tPip i → ∀ {b : Nat}, L.o b = some t → ¬ (b = L.pb i ∨ b = L.lb i) := fun hne b e => tag_off h hT hne e
  exact
    { hk := hf.get h.hk (off (by simp) h.ok)
      files := h.files_keep hf (.refl h hf) fun b _ e => off (by simp) e
      pr := (h.pr.frame hf fun g e => off (by simp) (h.opm g e)).congr fun j _ _ => ⟨by show _ = (if j = i then p else K.pipe j).inn; by_cases e : j = i; (· rw [if_pos e, e, hi]); (· rw [if_neg e]), rfl⟩
      dr := h.dr.frame hf fun g e => off (by simp) (h.odm g e)
      qr := h.qr.frame hf fun g e => off (by simp) (h.oqm g e)
      hd := fun j g1 g2 => hf.get (h.hd j g1 g2) (off (by simp) (h.od j g1 g2))
      hq := fun j g1 g2 => hf.get (h.hq j g1 g2) (off (by simp) (h.oq j g1 g2))
      ht := fun j g1 g2 => h.tab_keep hf (.refl h hf) g1 g2 fun b _ e => off (by simp) e
      hp := fun j g1 g2 => by
        show ∃ fm cs, PipeF w' (L.pb j) (L.lb j) 64 fm (if j = i then p else K.pipe j).data (if j = i then p else K.pipe j).r (if j = i then p else K.pipe j).x cs
        by_cases e : j = i
        · rw [if_pos e, e]; exact ⟨fm, cs, hA⟩
        · rw [if_neg e]; exact h.pipe_keep hf g1 g2 fun b e2 => off (by simp [e]) e2
      ok := h.ok, opm := h.opm, odm := h.odm, oqm := h.oqm, od := h.od, oq := h.oq, op := h.op
      new := fun b hb => h.new b (Nat.le_trans hf.size hb) }
/-- New blocks are somebody's. -/
def KLay.grow (L : KLay) (t : Nat × Nat) (w w' : World) : KLay := { L with o := fun b => if w.heap.size ≤ b ∧ b < w'.heap.size then some t else L.o b }
theorem KF.own_grow (h : KF w k K L) (t : Nat × Nat) (hs : w.heap.size ≤ w'.heap.size) : Own2 L (L.grow t w w').o w' where
  old b t' e := by
    have := h.lt e
    show (if w.heap.size ≤ b ∧ b < w'.heap.size then some t else L.o b) = some t'
    rw [if_neg (by omega)]
    exact e
  new b hb := by
    show (if w.heap.size ≤ b ∧ b < w'.heap.size then some t else L.o b) = none
    rw [if_neg (by omega)]
    exact h.new b (Nat.le_trans hs hb)
theorem KLay.S_grow {t : Nat × Nat} {b : Nat} (h : L.S t w b) : (L.grow t w w').S t w' b := by
  by_cases e : w.heap.size ≤ b ∧ b < w'.heap.size
  · exact .inl (if_pos e)
  · rcases h with h | h
    · exact .inl ((if_neg e).trans h)
    · exact .inr (by omega)
/-- The tree of files has turned. -/
theorem KF.filesU (h : KF w k K L) {σ : FSt} {p : Nat → Nat} (hf : Fr (L.S tFil w) w w') (hA : FilesAt w' L.f σ (L.S tFil w) p) : KF w' k { K with σ := σ } (L.grow tFil w w') := by
  have hT : ∀ b, b < w.heap.size → L.S tFil w b → L.o b = some tFil := fun b hb e => e.resolve_right (by omega)
  have off : ∀ {t : Nat × Nat}, t ≠ tFil → ∀ {b : Nat}, L.o b = some t → ¬ L.S tFil w b := fun hne b e => tag_off h hT hne e
  have ho := h.own_grow (w' := w') tFil hf.size
  exact
    { hk := hf.get h.hk (off (by simp) h.ok)
      files := ⟨p, hA.mono fun b e => KLay.S_grow e⟩
      pr := h.pr.frame hf fun g e => off (by simp) (h.opm g e)
      dr := h.dr.frame hf fun g e => off (by simp) (h.odm g e)
      qr := h.qr.frame hf fun g e => off (by simp) (h.oqm g e)
      hd := fun j g1 g2 => hf.get (h.hd j g1 g2) (off (by simp) (h.od j g1 g2))
      hq := fun j g1 g2 => hf.get (h.hq j g1 g2) (off (by simp) (h.oq j g1 g2))
      ht := fun j g1 g2 => h.tab_keep hf ho g1 g2 fun b _ e => off (by simp) e
      hp := fun j g1 g2 => h.pipe_keep hf g1 g2 fun b e => off (by simp) e
      ok := ho.old _ _ h.ok
      opm := fun g e => ho.old _ _ (h.opm g e)
      odm := fun g e => ho.old _ _ (h.odm g e)
      oqm := fun g e => ho.old _ _ (h.oqm g e)
      od := fun j g1 g2 => ho.old _ _ (h.od j g1 g2)
      oq := fun j g1 g2 => ho.old _ _ (h.oq j g1 g2)
      op := fun j g1 g2 => ⟨ho.old _ _ (h.op j g1 g2).1, ho.old _ _ (h.op j g1 g2).2⟩
      new := ho.new }
/-- A table has turned. -/
theorem KF.tabU (h : KF w k K L) {i : Nat} (h1 : 1 ≤ i) (h2 : i ≤ K.qn) {t : TSt} (hf : Fr (L.S (tTab i) w) w w') (hA : TabAt w' (L.tb i) (tabS L t) (L.S (tTab i) w)) : KF w' k (K.fds i t) (L.grow (tTab i) w w') := by
  have hT : ∀ b, b < w.heap.size → L.S (tTab i) w b → L.o b = some (tTab i) := fun b hb e => e.resolve_right (by omega)
  have off : ∀ {t : Nat × Nat}, t ≠ tTab i → ∀ {b : Nat}, L.o b = some t → ¬ L.S (tTab i) w b := fun hne b e => tag_off h hT hne e
  have ho := h.own_grow (w' := w') (tTab i) hf.size
  exact
    { hk := hf.get h.hk (off (by simp) h.ok)
      files := h.files_keep hf ho fun b _ e => off (by simp) e
      pr := h.pr.frame hf fun g e => off (by simp) (h.opm g e)
      dr := h.dr.frame hf fun g e => off (by simp) (h.odm g e)
      qr := (h.qr.frame hf fun g e => off (by simp) (h.oqm g e)).congr fun j _ _ => ⟨by show _ = (if j = i then { K.proc i with fds := t } else K.proc j).inn; by_cases e : j = i; (· rw [if_pos e, e]); (· rw [if_neg e]), rfl⟩
      hd := fun j g1 g2 => hf.get (h.hd j g1 g2) (off (by simp) (h.od j g1 g2))
      hq := fun j g1 g2 => by
        show w'.heap[L.qb j]? = some (Obj.cells (procC L j (if j = i then { K.proc i with fds := t } else K.proc j)) 76 (0, 0))
        have := hf.get (h.hq j g1 g2) (off (by simp) (h.oq j g1 g2))
        by_cases e : j = i
        · rw [if_pos e, e]; rw [e] at this; exact this
        · rw [if_neg e]; exact this
      ht := fun j g1 g2 => by
        show TabAt w' (L.tb j) (tabS L (if j = i then { K.proc i with fds := t } else K.proc j).fds) _
        by_cases e : j = i
        · rw [if_pos e, e]; exact hA.mono fun b e => KLay.S_grow e
        · rw [if_neg e]; exact h.tab_keep hf ho g1 g2 fun b _ e2 => off (by simp [e]) e2
      hp := fun j g1 g2 => h.pipe_keep hf g1 g2 fun b e => off (by simp) e
      ok := ho.old _ _ h.ok
      opm := fun g e => ho.old _ _ (h.opm g e)
      odm := fun g e => ho.old _ _ (h.odm g e)
      oqm := fun g e => ho.old _ _ (h.oqm g e)
      od := fun j g1 g2 => ho.old _ _ (h.od j g1 g2)
      oq := fun j g1 g2 => ho.old _ _ (h.oq j g1 g2)
      op := fun j g1 g2 => ⟨ho.old _ _ (h.op j g1 g2).1, ho.old _ _ (h.op j g1 g2).2⟩
      new := ho.new }
end
end Go.Proofs.YtdnbfhcbcdodmaaGreatDoor

/- gate.register.add, at the kernel's three registers. Conditions: the contract's own premises. -/
namespace Go.Proofs.YtdnbfhcbcdodmaaGreatDoor
open Go.RowKit

/-- A register has a thing more. -/
def RegAddPost (w : World) (k off : Nat) (cs : Array Value) (m : Option Nat) (inn : Nat → Bool) (b : Nat → Nat) (n xb : Nat) (e : Ending) (w' : World) : Prop :=
  e = .returned (.int .i64 ((n : Int) + 1)) ∧ ∃ m', w'.heap[k]? = some (.cells ((cs.setIfInBounds off (.int .i64 ((n : Int) + 1))).setIfInBounds (off + 1) (.map m')) 70 (0, 0)) ∧
    RegV w' m' (fun j => if j = n + 1 then true else inn j) (fun j => if j = n + 1 then xb else b j) (n + 1) ∧ ((m' = m ∧ m ≠ none) ∨ (m = none ∧ m' = some w.heap.size)) ∧ Fr (fun q => q = k ∨ m = some q) w w'
theorem regV_add {w' : World} {g n : Nat} {inn : Nat → Bool} {b : Nat → Nat} {xb : Nat} (h : IMapAt Tryz.prog 3 w' g (iput ((n : Int) + 1) (ptrAt xb) (regL inn (fun i => ptrAt (b i)) n))) : RegV w' (some g) (fun j => if j = n + 1 then true else inn j) (fun j => if j = n + 1 then xb else b j) (n + 1) := by
  have e := regL_add (inn := inn) (v := fun i => ptrAt (b i)) (n := n) (ptrAt xb)
  rw [show (((n + 1 : Nat) : Int)) = (n : Int) + 1 by omega] at e
  rw [e] at h
  show IMapAt Tryz.prog 3 w' g _
  have e2 : (fun j => if j = n + 1 then ptrAt xb else ptrAt (b j)) = fun j => ptrAt (if j = n + 1 then xb else b j) := by
    funext j
    by_cases e : j = n + 1
    · rw [if_pos e, if_pos e]
    · rw [if_neg e, if_neg e]
  rw [e2] at h
  exact h
set_option maxRecDepth 100000 in
set_option maxHeartbeats 1000000 in
theorem d_add (w : World) (k : Nat) (cs : Array Value) (m : Option Nat) (inn : Nat → Bool) (b : Nat → Nat) (n xb : Nat) (hk : w.heap[k]? = some (.cells cs 70 (0, 0))) (h0 : cs[3]? = some (.int .i64 n)) (h1 : cs[4]? = some (.map m)) (hr : RegV w m inn b n) (hkm : m ≠ some k) (hn : n ≤ 1000000000000) :
    Calls Tryz.prog 42 #[.pointer (some ⟨k, 3, none⟩), ptrAt xb] w (RegAddPost w k 3 cs m inn b n xb) := by
  have hmm := @run_makeMap Tryz.prog
  have hl0 : 3 < cs.size := (Array.getElem?_eq_some_iff.1 h0).1
  have hl1 : 4 < cs.size := (Array.getElem?_eq_some_iff.1 h1).1
  have hkl := blk_lt hk
  have hb64 : (Lit.int .i64 ((n : Int) + 1)).wf = true := wf_i64 (by omega)
  unfold ptrAt
  cases m with
  | none =>
    have hn0 : n = 0 := hr
    have heq : (binOp .eql 62 (.map none) (.map none)).run Tryz.prog w = .ok (.bool true) w := by kernel_rfl
    have c1 : w.cell? ⟨k, 4, none⟩ = some (.map none) := by rw [blk_cell hk]; exact h1
    have f1 : (w.alloc (.map #[] 0)).frozen? ⟨k, 4, none⟩ = false := blk_frozen (blk_alloc hk _) _
    obtain ⟨w1, hw1⟩ : ∃ w1, w1 = w.setCell ⟨k, 4, none⟩ (.map (some w.heap.size)) := ⟨_, rfl⟩
    have k1 : w1.heap[k]? = some (.cells (cs.setIfInBounds (4) (.map (some w.heap.size))) 70 (0, 0)) := by rw [hw1]; exact blk_set hk _ _
    have z1 : w1.heap.size = w.heap.size := by rw [hw1]; simp
    obtain ⟨w2, hw2⟩ : ∃ w2, w2 = w1.alloc (.map #[] 0) := ⟨_, rfl⟩
    have k2 : w2.heap[k]? = some (.cells (cs.setIfInBounds (4) (.map (some w.heap.size))) 70 (0, 0)) := by rw [hw2]; exact blk_alloc k1 _
    have c2 : w2.cell? ⟨k, 3, none⟩ = some (.int .i64 n) := by rw [blk_cell k2, Array.getElem?_setIfInBounds_ne (by omega)]; exact h0
    have f2 : w2.frozen? ⟨k, 3, none⟩ = false := blk_frozen k2 _
    obtain ⟨w3, hw3⟩ : ∃ w3, w3 = w2.setCell ⟨k, 3, none⟩ (.int .i64 ((n : Int) + 1)) := ⟨_, rfl⟩
    have k3 : w3.heap[k]? = some (.cells ((cs.setIfInBounds (4) (.map (some w.heap.size))).setIfInBounds 3 (.int .i64 ((n : Int) + 1))) 70 (0, 0)) := by rw [hw3]; exact blk_set k2 _ _
    have c3 : w3.drew.cell? ⟨k, 3, none⟩ = some (.int .i64 ((n : Int) + 1)) := by rw [blk_cell (blk_drew k3), Array.getElem?_setIfInBounds_self_of_lt (by simpa using hl0)]
    have c4 : w3.drew.cell? ⟨k, 4, none⟩ = some (.map (some w.heap.size)) := by rw [blk_cell (blk_drew k3), Array.getElem?_setIfInBounds_ne (by omega), Array.getElem?_setIfInBounds_self_of_lt hl1]
    have hfr3 : Fr (fun q => q = k) w w3 := by
      rw [hw3, hw2, hw1]
      exact (((Fr.refl (fun q => q = k) w).setCell (p := ⟨k, 4, none⟩) (.inl rfl) _).alloc _).setCell (p := ⟨k, 3, none⟩) (.inl rfl) _
    have hM : IMapAt Tryz.prog 3 w3.drew w.heap.size [] := by
      have h1 : IMapAt Tryz.prog 3 w2 w.heap.size [] := by rw [hw2, ← z1]; exact IMapAt.made w1
      have hf : Fr (fun q => q = k) w2 w3.drew := by rw [hw3]; exact ((Fr.refl (fun q => q = k) w2).setCell (p := ⟨k, 3, none⟩) (.inl rfl) _).drew
      exact h1.frame hf (by omega)
    obtain ⟨w4, hup, hM4, hf4⟩ := hM.update (t := 62) Tryz.underlying3 Tryz.underlying62 (by simp [maxLen]) ((n : Int) + 1) (by omega) (.pointer (some ⟨xb, 0, none⟩))
    have k4 : w4.heap[k]? = some (.cells ((cs.setIfInBounds 3 (.int .i64 ((n : Int) + 1))).setIfInBounds (4) (.map (some w.heap.size))) 70 (0, 0)) := by
      rw [hf4.get (blk_drew k3) (by omega), Array.setIfInBounds_comm _ _ (by omega)]
    have c5 : w4.cell? ⟨k, 3, none⟩ = some (.int .i64 ((n : Int) + 1)) := by rw [blk_cell k4, Array.getElem?_setIfInBounds_ne (by omega), Array.getElem?_setIfInBounds_self_of_lt hl0]
    have hfin := hide (show RegAddPost w k 3 cs none inn b n xb (.returned (.int .i64 ((n : Int) + 1))) w4 from ⟨rfl, some w.heap.size, k4, regV_add (by rw [show regL inn (fun i => ptrAt (b i)) n = [] by rw [hn0]; rfl]; exact hM4), .inr ⟨rfl, rfl⟩, (hfr3.drew.mono fun _ _ e => .inl e).trans' hf4 fun i hi e => by omega⟩)
    have hov : ¬ (9223372036854775807 < (n : Int) + 1) := by omega
    clear hn0 h0 h1 hl0 hl1 hk hb64 hkm
    have Hw2 := hide (show w2 = (w.setCell ⟨k, 4, none⟩ (.map (some w.heap.size))).alloc (.map #[] 0) by rw [hw2, hw1])
    have Hw3 := hide hw3
    clear hr hM hM4 hf4 k4 k3 k2 k1 hfr3 hw1 hw2 hw3 z1
    go_enter Tryz.func42, Tryz.ntmps42
    go_upto_region 3 with (fail)
    rw [← Hw2.out]
    clear Hw2 hmm f1 c1 heq
    go_wp2_with fail
    rw [← Hw3.out]
    refine region_tail 9 (by kernel_rfl) (by kernel_rfl) ?_
    simp only [List.take_succ_cons, List.take_zero, List.drop_succ_cons, List.drop_zero]
    repeat go_big_quiet_step (fail)
    refine wpQuiet_nil ?_
    go_wp2_with fail
    go_ret
    exact hfin.out
  | some g =>
    have hM0 : IMapAt Tryz.prog 3 w g (regL inn (fun i => ptrAt (b i)) n) := hr
    have heq : (binOp .eql 62 (.map (some g)) (.map none)).run Tryz.prog w = .ok (.bool false) w := by kernel_rfl
    have hgk : g ≠ k := fun e => hkm (by rw [e])
    have c1 : w.cell? ⟨k, 4, none⟩ = some (.map (some g)) := by rw [blk_cell hk]; exact h1
    have c2 : w.cell? ⟨k, 3, none⟩ = some (.int .i64 n) := by rw [blk_cell hk]; exact h0
    have f2 : w.frozen? ⟨k, 3, none⟩ = false := blk_frozen hk _
    obtain ⟨w3, hw3⟩ : ∃ w3, w3 = w.setCell ⟨k, 3, none⟩ (.int .i64 ((n : Int) + 1)) := ⟨_, rfl⟩
    have k3 : w3.heap[k]? = some (.cells (cs.setIfInBounds 3 (.int .i64 ((n : Int) + 1))) 70 (0, 0)) := by rw [hw3]; exact blk_set hk _ _
    have c3 : w3.drew.cell? ⟨k, 3, none⟩ = some (.int .i64 ((n : Int) + 1)) := by rw [blk_cell (blk_drew k3), Array.getElem?_setIfInBounds_self_of_lt hl0]
    have c4 : w3.drew.cell? ⟨k, 4, none⟩ = some (.map (some g)) := by rw [blk_cell (blk_drew k3), Array.getElem?_setIfInBounds_ne (by omega)]; exact h1
    have hfr3 : Fr (fun q => q = k) w w3.drew := by rw [hw3]; exact ((Fr.refl (fun q => q = k) w).setCell (p := ⟨k, 3, none⟩) (.inl rfl) _).drew
    have hM := hM0.frame hfr3 hgk
    have hln := regL_len inn (fun i => ptrAt (b i)) n
    obtain ⟨w4, hup, hM4, hf4⟩ := hM.update (t := 62) Tryz.underlying3 Tryz.underlying62 (by unfold maxLen; omega) ((n : Int) + 1) (by omega) (.pointer (some ⟨xb, 0, none⟩))
    have k4 : w4.heap[k]? = some (.cells ((cs.setIfInBounds 3 (.int .i64 ((n : Int) + 1))).setIfInBounds (4) (.map (some g))) 70 (0, 0)) := by
      rw [hf4.get (blk_drew k3) (Ne.symm hgk), show (cs.setIfInBounds 3 (.int .i64 ((n : Int) + 1))).setIfInBounds (4) (.map (some g)) = cs.setIfInBounds 3 (.int .i64 ((n : Int) + 1)) from by
        apply Array.ext_getElem?
        intro j
        by_cases e : j = 4
        · rw [e, Array.getElem?_setIfInBounds_self_of_lt (by simpa using hl1), Array.getElem?_setIfInBounds_ne (by omega), h1]
        · rw [Array.getElem?_setIfInBounds_ne (Ne.symm e)]]
    have c5 : w4.cell? ⟨k, 3, none⟩ = some (.int .i64 ((n : Int) + 1)) := by rw [blk_cell k4, Array.getElem?_setIfInBounds_ne (by omega), Array.getElem?_setIfInBounds_self_of_lt hl0]
    have hfin := hide (show RegAddPost w k 3 cs (some g) inn b n xb (.returned (.int .i64 ((n : Int) + 1))) w4 from ⟨rfl, some g, k4, regV_add hM4, .inl ⟨rfl, by simp⟩, (hfr3.mono fun _ _ e => .inl e).trans' hf4 fun i hi e => .inr (by rw [e])⟩)
    have hov : ¬ (9223372036854775807 < (n : Int) + 1) := by omega
    clear h0 h1 hl0 hl1 hk hb64 hkm
    rw [hw3] at hup c3 c4
    clear hr hM hM4 hf4 k4 k3 hfr3 hM0 hw3
    go_enter Tryz.func42, Tryz.ntmps42
    go_wp2_with fail
    refine region_tail 9 (by kernel_rfl) (by kernel_rfl) ?_
    simp only [List.take_succ_cons, List.take_zero, List.drop_succ_cons, List.drop_zero]
    repeat go_big_quiet_step (fail)
    refine wpQuiet_nil ?_
    go_wp2_with fail
    go_ret
    exact hfin.out
set_option maxRecDepth 100000 in
set_option maxHeartbeats 1000000 in
theorem q_add (w : World) (k : Nat) (cs : Array Value) (m : Option Nat) (inn : Nat → Bool) (b : Nat → Nat) (n xb : Nat) (hk : w.heap[k]? = some (.cells cs 70 (0, 0))) (h0 : cs[5]? = some (.int .i64 n)) (h1 : cs[6]? = some (.map m)) (hr : RegV w m inn b n) (hkm : m ≠ some k) (hn : n ≤ 1000000000000) :
    Calls Tryz.prog 23 #[.pointer (some ⟨k, 5, none⟩), ptrAt xb] w (RegAddPost w k 5 cs m inn b n xb) := by
  have hmm := @run_makeMap Tryz.prog
  have hl0 : 5 < cs.size := (Array.getElem?_eq_some_iff.1 h0).1
  have hl1 : 6 < cs.size := (Array.getElem?_eq_some_iff.1 h1).1
  have hkl := blk_lt hk
  have hb64 : (Lit.int .i64 ((n : Int) + 1)).wf = true := wf_i64 (by omega)
  unfold ptrAt
  cases m with
  | none =>
    have hn0 : n = 0 := hr
    have heq : (binOp .eql 65 (.map none) (.map none)).run Tryz.prog w = .ok (.bool true) w := by kernel_rfl
    have c1 : w.cell? ⟨k, 6, none⟩ = some (.map none) := by rw [blk_cell hk]; exact h1
    have f1 : (w.alloc (.map #[] 0)).frozen? ⟨k, 6, none⟩ = false := blk_frozen (blk_alloc hk _) _
    obtain ⟨w1, hw1⟩ : ∃ w1, w1 = w.setCell ⟨k, 6, none⟩ (.map (some w.heap.size)) := ⟨_, rfl⟩
    have k1 : w1.heap[k]? = some (.cells (cs.setIfInBounds (6) (.map (some w.heap.size))) 70 (0, 0)) := by rw [hw1]; exact blk_set hk _ _
    have z1 : w1.heap.size = w.heap.size := by rw [hw1]; simp
    obtain ⟨w2, hw2⟩ : ∃ w2, w2 = w1.alloc (.map #[] 0) := ⟨_, rfl⟩
    have k2 : w2.heap[k]? = some (.cells (cs.setIfInBounds (6) (.map (some w.heap.size))) 70 (0, 0)) := by rw [hw2]; exact blk_alloc k1 _
    have c2 : w2.cell? ⟨k, 5, none⟩ = some (.int .i64 n) := by rw [blk_cell k2, Array.getElem?_setIfInBounds_ne (by omega)]; exact h0
    have f2 : w2.frozen? ⟨k, 5, none⟩ = false := blk_frozen k2 _
    obtain ⟨w3, hw3⟩ : ∃ w3, w3 = w2.setCell ⟨k, 5, none⟩ (.int .i64 ((n : Int) + 1)) := ⟨_, rfl⟩
    have k3 : w3.heap[k]? = some (.cells ((cs.setIfInBounds (6) (.map (some w.heap.size))).setIfInBounds 5 (.int .i64 ((n : Int) + 1))) 70 (0, 0)) := by rw [hw3]; exact blk_set k2 _ _
    have c3 : w3.drew.cell? ⟨k, 5, none⟩ = some (.int .i64 ((n : Int) + 1)) := by rw [blk_cell (blk_drew k3), Array.getElem?_setIfInBounds_self_of_lt (by simpa using hl0)]
    have c4 : w3.drew.cell? ⟨k, 6, none⟩ = some (.map (some w.heap.size)) := by rw [blk_cell (blk_drew k3), Array.getElem?_setIfInBounds_ne (by omega), Array.getElem?_setIfInBounds_self_of_lt hl1]
    have hfr3 : Fr (fun q => q = k) w w3 := by
      rw [hw3, hw2, hw1]
      exact (((Fr.refl (fun q => q = k) w).setCell (p := ⟨k, 6, none⟩) (.inl rfl) _).alloc _).setCell (p := ⟨k, 5, none⟩) (.inl rfl) _
    have hM : IMapAt Tryz.prog 3 w3.drew w.heap.size [] := by
      have h1 : IMapAt Tryz.prog 3 w2 w.heap.size [] := by rw [hw2, ← z1]; exact IMapAt.made w1
      have hf : Fr (fun q => q = k) w2 w3.drew := by rw [hw3]; exact ((Fr.refl (fun q => q = k) w2).setCell (p := ⟨k, 5, none⟩) (.inl rfl) _).drew
      exact h1.frame hf (by omega)
    obtain ⟨w4, hup, hM4, hf4⟩ := hM.update (t := 65) Tryz.underlying3 Tryz.underlying65 (by simp [maxLen]) ((n : Int) + 1) (by omega) (.pointer (some ⟨xb, 0, none⟩))
    have k4 : w4.heap[k]? = some (.cells ((cs.setIfInBounds 5 (.int .i64 ((n : Int) + 1))).setIfInBounds (6) (.map (some w.heap.size))) 70 (0, 0)) := by
      rw [hf4.get (blk_drew k3) (by omega), Array.setIfInBounds_comm _ _ (by omega)]
    have c5 : w4.cell? ⟨k, 5, none⟩ = some (.int .i64 ((n : Int) + 1)) := by rw [blk_cell k4, Array.getElem?_setIfInBounds_ne (by omega), Array.getElem?_setIfInBounds_self_of_lt hl0]
    have hfin := hide (show RegAddPost w k 5 cs none inn b n xb (.returned (.int .i64 ((n : Int) + 1))) w4 from ⟨rfl, some w.heap.size, k4, regV_add (by rw [show regL inn (fun i => ptrAt (b i)) n = [] by rw [hn0]; rfl]; exact hM4), .inr ⟨rfl, rfl⟩, (hfr3.drew.mono fun _ _ e => .inl e).trans' hf4 fun i hi e => by omega⟩)
    have hov : ¬ (9223372036854775807 < (n : Int) + 1) := by omega
    clear hn0 h0 h1 hl0 hl1 hk hb64 hkm
    have Hw2 := hide (show w2 = (w.setCell ⟨k, 6, none⟩ (.map (some w.heap.size))).alloc (.map #[] 0) by rw [hw2, hw1])
    have Hw3 := hide hw3
    clear hr hM hM4 hf4 k4 k3 k2 k1 hfr3 hw1 hw2 hw3 z1
    go_enter Tryz.func23, Tryz.ntmps23
    go_upto_region 3 with (fail)
    rw [← Hw2.out]
    clear Hw2 hmm f1 c1 heq
    go_wp2_with fail
    rw [← Hw3.out]
    refine region_tail 9 (by kernel_rfl) (by kernel_rfl) ?_
    simp only [List.take_succ_cons, List.take_zero, List.drop_succ_cons, List.drop_zero]
    repeat go_big_quiet_step (fail)
    refine wpQuiet_nil ?_
    go_wp2_with fail
    go_ret
    exact hfin.out
  | some g =>
    have hM0 : IMapAt Tryz.prog 3 w g (regL inn (fun i => ptrAt (b i)) n) := hr
    have heq : (binOp .eql 65 (.map (some g)) (.map none)).run Tryz.prog w = .ok (.bool false) w := by kernel_rfl
    have hgk : g ≠ k := fun e => hkm (by rw [e])
    have c1 : w.cell? ⟨k, 6, none⟩ = some (.map (some g)) := by rw [blk_cell hk]; exact h1
    have c2 : w.cell? ⟨k, 5, none⟩ = some (.int .i64 n) := by rw [blk_cell hk]; exact h0
    have f2 : w.frozen? ⟨k, 5, none⟩ = false := blk_frozen hk _
    obtain ⟨w3, hw3⟩ : ∃ w3, w3 = w.setCell ⟨k, 5, none⟩ (.int .i64 ((n : Int) + 1)) := ⟨_, rfl⟩
    have k3 : w3.heap[k]? = some (.cells (cs.setIfInBounds 5 (.int .i64 ((n : Int) + 1))) 70 (0, 0)) := by rw [hw3]; exact blk_set hk _ _
    have c3 : w3.drew.cell? ⟨k, 5, none⟩ = some (.int .i64 ((n : Int) + 1)) := by rw [blk_cell (blk_drew k3), Array.getElem?_setIfInBounds_self_of_lt hl0]
    have c4 : w3.drew.cell? ⟨k, 6, none⟩ = some (.map (some g)) := by rw [blk_cell (blk_drew k3), Array.getElem?_setIfInBounds_ne (by omega)]; exact h1
    have hfr3 : Fr (fun q => q = k) w w3.drew := by rw [hw3]; exact ((Fr.refl (fun q => q = k) w).setCell (p := ⟨k, 5, none⟩) (.inl rfl) _).drew
    have hM := hM0.frame hfr3 hgk
    have hln := regL_len inn (fun i => ptrAt (b i)) n
    obtain ⟨w4, hup, hM4, hf4⟩ := hM.update (t := 65) Tryz.underlying3 Tryz.underlying65 (by unfold maxLen; omega) ((n : Int) + 1) (by omega) (.pointer (some ⟨xb, 0, none⟩))
    have k4 : w4.heap[k]? = some (.cells ((cs.setIfInBounds 5 (.int .i64 ((n : Int) + 1))).setIfInBounds (6) (.map (some g))) 70 (0, 0)) := by
      rw [hf4.get (blk_drew k3) (Ne.symm hgk), show (cs.setIfInBounds 5 (.int .i64 ((n : Int) + 1))).setIfInBounds (6) (.map (some g)) = cs.setIfInBounds 5 (.int .i64 ((n : Int) + 1)) from by
        apply Array.ext_getElem?
        intro j
        by_cases e : j = 6
        · rw [e, Array.getElem?_setIfInBounds_self_of_lt (by simpa using hl1), Array.getElem?_setIfInBounds_ne (by omega), h1]
        · rw [Array.getElem?_setIfInBounds_ne (Ne.symm e)]]
    have c5 : w4.cell? ⟨k, 5, none⟩ = some (.int .i64 ((n : Int) + 1)) := by rw [blk_cell k4, Array.getElem?_setIfInBounds_ne (by omega), Array.getElem?_setIfInBounds_self_of_lt hl0]
    have hfin := hide (show RegAddPost w k 5 cs (some g) inn b n xb (.returned (.int .i64 ((n : Int) + 1))) w4 from ⟨rfl, some g, k4, regV_add hM4, .inl ⟨rfl, by simp⟩, (hfr3.mono fun _ _ e => .inl e).trans' hf4 fun i hi e => .inr (by rw [e])⟩)
    have hov : ¬ (9223372036854775807 < (n : Int) + 1) := by omega
    clear h0 h1 hl0 hl1 hk hb64 hkm
    rw [hw3] at hup c3 c4
    clear hr hM hM4 hf4 k4 k3 hfr3 hM0 hw3
    go_enter Tryz.func23, Tryz.ntmps23
    go_wp2_with fail
    refine region_tail 9 (by kernel_rfl) (by kernel_rfl) ?_
    simp only [List.take_succ_cons, List.take_zero, List.drop_succ_cons, List.drop_zero]
    repeat go_big_quiet_step (fail)
    refine wpQuiet_nil ?_
    go_wp2_with fail
    go_ret
    exact hfin.out
set_option maxRecDepth 100000 in
set_option maxHeartbeats 1000000 in
theorem p_add (w : World) (k : Nat) (cs : Array Value) (m : Option Nat) (inn : Nat → Bool) (b : Nat → Nat) (n xb : Nat) (hk : w.heap[k]? = some (.cells cs 70 (0, 0))) (h0 : cs[1]? = some (.int .i64 n)) (h1 : cs[2]? = some (.map m)) (hr : RegV w m inn b n) (hkm : m ≠ some k) (hn : n ≤ 1000000000000) :
    Calls Tryz.prog 90 #[.pointer (some ⟨k, 1, none⟩), ptrAt xb] w (RegAddPost w k 1 cs m inn b n xb) := by
  have hmm := @run_makeMap Tryz.prog
  have hl0 : 1 < cs.size := (Array.getElem?_eq_some_iff.1 h0).1
  have hl1 : 2 < cs.size := (Array.getElem?_eq_some_iff.1 h1).1
  have hkl := blk_lt hk
  have hb64 : (Lit.int .i64 ((n : Int) + 1)).wf = true := wf_i64 (by omega)
  unfold ptrAt
  cases m with
  | none =>
    have hn0 : n = 0 := hr
    have heq : (binOp .eql 59 (.map none) (.map none)).run Tryz.prog w = .ok (.bool true) w := by kernel_rfl
    have c1 : w.cell? ⟨k, 2, none⟩ = some (.map none) := by rw [blk_cell hk]; exact h1
    have f1 : (w.alloc (.map #[] 0)).frozen? ⟨k, 2, none⟩ = false := blk_frozen (blk_alloc hk _) _
    obtain ⟨w1, hw1⟩ : ∃ w1, w1 = w.setCell ⟨k, 2, none⟩ (.map (some w.heap.size)) := ⟨_, rfl⟩
    have k1 : w1.heap[k]? = some (.cells (cs.setIfInBounds (2) (.map (some w.heap.size))) 70 (0, 0)) := by rw [hw1]; exact blk_set hk _ _
    have z1 : w1.heap.size = w.heap.size := by rw [hw1]; simp
    obtain ⟨w2, hw2⟩ : ∃ w2, w2 = w1.alloc (.map #[] 0) := ⟨_, rfl⟩
    have k2 : w2.heap[k]? = some (.cells (cs.setIfInBounds (2) (.map (some w.heap.size))) 70 (0, 0)) := by rw [hw2]; exact blk_alloc k1 _
    have c2 : w2.cell? ⟨k, 1, none⟩ = some (.int .i64 n) := by rw [blk_cell k2, Array.getElem?_setIfInBounds_ne (by omega)]; exact h0
    have f2 : w2.frozen? ⟨k, 1, none⟩ = false := blk_frozen k2 _
    obtain ⟨w3, hw3⟩ : ∃ w3, w3 = w2.setCell ⟨k, 1, none⟩ (.int .i64 ((n : Int) + 1)) := ⟨_, rfl⟩
    have k3 : w3.heap[k]? = some (.cells ((cs.setIfInBounds (2) (.map (some w.heap.size))).setIfInBounds 1 (.int .i64 ((n : Int) + 1))) 70 (0, 0)) := by rw [hw3]; exact blk_set k2 _ _
    have c3 : w3.drew.cell? ⟨k, 1, none⟩ = some (.int .i64 ((n : Int) + 1)) := by rw [blk_cell (blk_drew k3), Array.getElem?_setIfInBounds_self_of_lt (by simpa using hl0)]
    have c4 : w3.drew.cell? ⟨k, 2, none⟩ = some (.map (some w.heap.size)) := by rw [blk_cell (blk_drew k3), Array.getElem?_setIfInBounds_ne (by omega), Array.getElem?_setIfInBounds_self_of_lt hl1]
    have hfr3 : Fr (fun q => q = k) w w3 := by
      rw [hw3, hw2, hw1]
      exact (((Fr.refl (fun q => q = k) w).setCell (p := ⟨k, 2, none⟩) (.inl rfl) _).alloc _).setCell (p := ⟨k, 1, none⟩) (.inl rfl) _
    have hM : IMapAt Tryz.prog 3 w3.drew w.heap.size [] := by
      have h1 : IMapAt Tryz.prog 3 w2 w.heap.size [] := by rw [hw2, ← z1]; exact IMapAt.made w1
      have hf : Fr (fun q => q = k) w2 w3.drew := by rw [hw3]; exact ((Fr.refl (fun q => q = k) w2).setCell (p := ⟨k, 1, none⟩) (.inl rfl) _).drew
      exact h1.frame hf (by omega)
    obtain ⟨w4, hup, hM4, hf4⟩ := hM.update (t := 59) Tryz.underlying3 Tryz.underlying59 (by simp [maxLen]) ((n : Int) + 1) (by omega) (.pointer (some ⟨xb, 0, none⟩))
    have k4 : w4.heap[k]? = some (.cells ((cs.setIfInBounds 1 (.int .i64 ((n : Int) + 1))).setIfInBounds (2) (.map (some w.heap.size))) 70 (0, 0)) := by
      rw [hf4.get (blk_drew k3) (by omega), Array.setIfInBounds_comm _ _ (by omega)]
    have c5 : w4.cell? ⟨k, 1, none⟩ = some (.int .i64 ((n : Int) + 1)) := by rw [blk_cell k4, Array.getElem?_setIfInBounds_ne (by omega), Array.getElem?_setIfInBounds_self_of_lt hl0]
    have hfin := hide (show RegAddPost w k 1 cs none inn b n xb (.returned (.int .i64 ((n : Int) + 1))) w4 from ⟨rfl, some w.heap.size, k4, regV_add (by rw [show regL inn (fun i => ptrAt (b i)) n = [] by rw [hn0]; rfl]; exact hM4), .inr ⟨rfl, rfl⟩, (hfr3.drew.mono fun _ _ e => .inl e).trans' hf4 fun i hi e => by omega⟩)
    have hov : ¬ (9223372036854775807 < (n : Int) + 1) := by omega
    clear hn0 h0 h1 hl0 hl1 hk hb64 hkm
    have Hw2 := hide (show w2 = (w.setCell ⟨k, 2, none⟩ (.map (some w.heap.size))).alloc (.map #[] 0) by rw [hw2, hw1])
    have Hw3 := hide hw3
    clear hr hM hM4 hf4 k4 k3 k2 k1 hfr3 hw1 hw2 hw3 z1
    go_enter Tryz.func90, Tryz.ntmps90
    go_upto_region 3 with (fail)
    rw [← Hw2.out]
    clear Hw2 hmm f1 c1 heq
    go_wp2_with fail
    rw [← Hw3.out]
    refine region_tail 9 (by kernel_rfl) (by kernel_rfl) ?_
    simp only [List.take_succ_cons, List.take_zero, List.drop_succ_cons, List.drop_zero]
    repeat go_big_quiet_step (fail)
    refine wpQuiet_nil ?_
    go_wp2_with fail
    go_ret
    exact hfin.out
  | some g =>
    have hM0 : IMapAt Tryz.prog 3 w g (regL inn (fun i => ptrAt (b i)) n) := hr
    have heq : (binOp .eql 59 (.map (some g)) (.map none)).run Tryz.prog w = .ok (.bool false) w := by kernel_rfl
    have hgk : g ≠ k := fun e => hkm (by rw [e])
    have c1 : w.cell? ⟨k, 2, none⟩ = some (.map (some g)) := by rw [blk_cell hk]; exact h1
    have c2 : w.cell? ⟨k, 1, none⟩ = some (.int .i64 n) := by rw [blk_cell hk]; exact h0
    have f2 : w.frozen? ⟨k, 1, none⟩ = false := blk_frozen hk _
    obtain ⟨w3, hw3⟩ : ∃ w3, w3 = w.setCell ⟨k, 1, none⟩ (.int .i64 ((n : Int) + 1)) := ⟨_, rfl⟩
    have k3 : w3.heap[k]? = some (.cells (cs.setIfInBounds 1 (.int .i64 ((n : Int) + 1))) 70 (0, 0)) := by rw [hw3]; exact blk_set hk _ _
    have c3 : w3.drew.cell? ⟨k, 1, none⟩ = some (.int .i64 ((n : Int) + 1)) := by rw [blk_cell (blk_drew k3), Array.getElem?_setIfInBounds_self_of_lt hl0]
    have c4 : w3.drew.cell? ⟨k, 2, none⟩ = some (.map (some g)) := by rw [blk_cell (blk_drew k3), Array.getElem?_setIfInBounds_ne (by omega)]; exact h1
    have hfr3 : Fr (fun q => q = k) w w3.drew := by rw [hw3]; exact ((Fr.refl (fun q => q = k) w).setCell (p := ⟨k, 1, none⟩) (.inl rfl) _).drew
    have hM := hM0.frame hfr3 hgk
    have hln := regL_len inn (fun i => ptrAt (b i)) n
    obtain ⟨w4, hup, hM4, hf4⟩ := hM.update (t := 59) Tryz.underlying3 Tryz.underlying59 (by unfold maxLen; omega) ((n : Int) + 1) (by omega) (.pointer (some ⟨xb, 0, none⟩))
    have k4 : w4.heap[k]? = some (.cells ((cs.setIfInBounds 1 (.int .i64 ((n : Int) + 1))).setIfInBounds (2) (.map (some g))) 70 (0, 0)) := by
      rw [hf4.get (blk_drew k3) (Ne.symm hgk), show (cs.setIfInBounds 1 (.int .i64 ((n : Int) + 1))).setIfInBounds (2) (.map (some g)) = cs.setIfInBounds 1 (.int .i64 ((n : Int) + 1)) from by
        apply Array.ext_getElem?
        intro j
        by_cases e : j = 2
        · rw [e, Array.getElem?_setIfInBounds_self_of_lt (by simpa using hl1), Array.getElem?_setIfInBounds_ne (by omega), h1]
        · rw [Array.getElem?_setIfInBounds_ne (Ne.symm e)]]
    have c5 : w4.cell? ⟨k, 1, none⟩ = some (.int .i64 ((n : Int) + 1)) := by rw [blk_cell k4, Array.getElem?_setIfInBounds_ne (by omega), Array.getElem?_setIfInBounds_self_of_lt hl0]
    have hfin := hide (show RegAddPost w k 1 cs (some g) inn b n xb (.returned (.int .i64 ((n : Int) + 1))) w4 from ⟨rfl, some g, k4, regV_add hM4, .inl ⟨rfl, by simp⟩, (hfr3.mono fun _ _ e => .inl e).trans' hf4 fun i hi e => .inr (by rw [e])⟩)
    have hov : ¬ (9223372036854775807 < (n : Int) + 1) := by omega
    clear h0 h1 hl0 hl1 hk hb64 hkm
    rw [hw3] at hup c3 c4
    clear hr hM hM4 hf4 k4 k3 hfr3 hM0 hw3
    go_enter Tryz.func90, Tryz.ntmps90
    go_wp2_with fail
    refine region_tail 9 (by kernel_rfl) (by kernel_rfl) ?_
    simp only [List.take_succ_cons, List.take_zero, List.drop_succ_cons, List.drop_zero]
    repeat go_big_quiet_step (fail)
    refine wpQuiet_nil ?_
    go_wp2_with fail
    go_ret
    exact hfin.out
end Go.Proofs.YtdnbfhcbcdodmaaGreatDoor

/- The kernel in memory: a description, a pipe, a process more. Conditions: each law's own premises. -/
namespace Go.Proofs.YtdnbfhcbcdodmaaGreatDoor
open Go.RowKit

section
variable {w w' : World} {k : Nat} {K : KQ} {L L' : KLay} {T : Nat → Prop}
/-- All that a register with a new thing keeps of the rest. -/
theorem tag_tm (h : KF w k K L) {s : Option Nat} {i : Nat} (hT : ∀ b t, L.o b = some t → T b → b = k ∨ s = some b) (hs : ∀ g, s = some g → L.o g = some (tMap i)) {b : Nat} {t : Nat × Nat} (e : L.o b = some t) (h1 : t ≠ tKer) (h2 : t ≠ tMap i) : ¬ T b := fun e2 => by
  rcases hT b t e e2 with e3 | e3
  · rw [e3, h.ok] at e
    exact h1 (Option.some.inj e).symm
  · rw [hs b e3] at e
    exact h2 (Option.some.inj e).symm
def KLay.addD (L : KLay) (n xb : Nat) (m : Option Nat) : KLay := { L with dm := m, db := fun j => if j = n + 1 then xb else L.db j, o := fun x => if x = xb then some (tDsc (n + 1)) else if m = some x then some (tMap 1) else L.o x }
theorem tabS_addD {L : KLay} {n xb : Nat} {m : Option Nat} {t : TSt} (h : ∀ fd j x, t fd = some (j, x) → j ≤ n) : tabS (L.addD n xb m) t = tabS L t := by
  funext fd
  unfold tabS
  cases e : t fd with
  | none => rfl
  | some p =>
    obtain ⟨j, x⟩ := p
    have := h fd j x e
    show some (if j = n + 1 then xb else L.db j, x) = some (L.db j, x)
    rw [if_neg (by omega)]
theorem KF.addD (h : KF w k K L) {xb : Nat} {m : Option Nat} {d : DescQ} (hk : w'.heap[k]? = some (.cells (kerC { L with dm := m } { K with dn := K.dn + 1 }) 70 (0, 0)))
    (hr : RegV w' m (fun j => if j = K.dn + 1 then true else (K.desc j).inn) (fun j => if j = K.dn + 1 then xb else L.db j) (K.dn + 1)) (hin : d.inn = true)
    (hb : w'.heap[xb]? = some (.cells (descC L (K.dn + 1) d) 84 (0, 0))) (hxo : L.o xb = none) (hm : m = L.dm ∨ ∃ g, m = some g ∧ L.o g = none ∧ g < w'.heap.size ∧ g ≠ xb)
    (hf : Fr T w w') (hT : ∀ b t, L.o b = some t → T b → b = k ∨ L.dm = some b) (hfd : ∀ i fd j x, 1 ≤ i → i ≤ K.qn → (K.proc i).fds fd = some (j, x) → j ≤ K.dn) : KF w' k (K.addD d) (L.addD K.dn xb m) := by
  have hml : ∀ g, m = some g → g < w'.heap.size := fun g e => by subst e; exact hr.lt
  have hold : ∀ b t, L.o b = some t → (L.addD K.dn xb m).o b = some t := fun b t e => by
    show (if b = xb then some (tDsc (K.dn + 1)) else if m = some b then some (tMap 1) else L.o b) = some t
    rw [if_neg (fun e2 => by rw [e2, hxo] at e; cases e)]
    by_cases e2 : m = some b
    · rw [if_pos e2]
      rcases hm with hm | ⟨g, g1, g2, _⟩
      · rw [h.odm b (hm ▸ e2)] at e; exact e
      · rw [g1] at e2; cases e2; rw [g2] at e; cases e
    · rw [if_neg e2]; exact e
  have ho : Own2 L (L.addD K.dn xb m).o w' := ⟨hold, fun b hb2 => by
    show (if b = xb then some (tDsc (K.dn + 1)) else if m = some b then some (tMap 1) else L.o b) = none
    rw [if_neg (fun e2 => by have := blk_lt hb; omega), if_neg (fun e2 => by have := hml b e2; omega)]
    exact h.new b (Nat.le_trans hf.size hb2)⟩
  have off : ∀ {t : Nat × Nat}, t ≠ tKer → t ≠ tMap 1 → ∀ {b : Nat}, L.o b = some t → ¬ T b := fun h1 h2 b e => tag_tm h hT h.odm e h1 h2
  exact
    { hk := hk
      files := h.files_keep hf ho fun b _ e => off (by simp) (by simp) e
      pr := h.pr.frame hf fun g e => off (by simp) (by simp) (h.opm g e)
      dr := hr.congr fun j _ _ => ⟨by show _ = (if j = K.dn + 1 then d else K.desc j).inn; by_cases e : j = K.dn + 1; (· rw [if_pos e, if_pos e, hin]); (· rw [if_neg e, if_neg e]), rfl⟩
      qr := h.qr.frame hf fun g e => off (by simp) (by simp) (h.oqm g e)
      hd := fun j g1 g2 => by
        show w'.heap[if j = K.dn + 1 then xb else L.db j]? = some (Obj.cells (descC L j (if j = K.dn + 1 then d else K.desc j)) 84 (0, 0))
        have g2 : j ≤ K.dn + 1 := g2
        by_cases e : j = K.dn + 1
        · rw [if_pos e, if_pos e, e]; exact hb
        · rw [if_neg e, if_neg e]; exact hf.get (h.hd j g1 (by omega)) (off (by simp) (by simp) (h.od j g1 (by omega)))
      hq := fun j g1 g2 => hf.get (h.hq j g1 g2) (off (by simp) (by simp) (h.oq j g1 g2))
      ht := fun j g1 g2 => by
        show TabAt w' (L.tb j) (tabS (L.addD K.dn xb m) (K.proc j).fds) ((L.addD K.dn xb m).S (tTab j) w')
        rw [tabS_addD fun fd a x e => hfd j fd a x g1 g2 e]
        exact h.tab_keep hf ho g1 g2 fun b _ e => off (by simp) (by simp) e
      hp := fun j g1 g2 => h.pipe_keep hf g1 g2 fun b e => off (by simp) (by simp) e
      ok := hold _ _ h.ok
      opm := fun g e => hold _ _ (h.opm g e)
      odm := fun g e => by
        show (if g = xb then some (tDsc (K.dn + 1)) else if m = some g then some (tMap 1) else L.o g) = some (tMap 1)
        have e : m = some g := e
        rw [if_neg (fun e2 => by
          rcases hm with hm | ⟨g', g1, _, _, g2⟩
          · rw [hm] at e; have := h.odm g e; rw [e2, hxo] at this; cases this
          · rw [g1] at e; cases e; exact g2 e2), if_pos e]
      oqm := fun g e => hold _ _ (h.oqm g e)
      od := fun j g1 g2 => by
        have g2 : j ≤ K.dn + 1 := g2
        by_cases e : j = K.dn + 1
        · show (L.addD K.dn xb m).o (if j = K.dn + 1 then xb else L.db j) = some (tDsc j)
          rw [if_pos e, e]; exact if_pos rfl
        · show (L.addD K.dn xb m).o (if j = K.dn + 1 then xb else L.db j) = some (tDsc j)
          rw [if_neg e]; exact hold _ _ (h.od j g1 (by omega))
      oq := fun j g1 g2 => hold _ _ (h.oq j g1 g2)
      op := fun j g1 g2 => ⟨hold _ _ (h.op j g1 g2).1, hold _ _ (h.op j g1 g2).2⟩
      new := ho.new }
def KQ.addP (K : KQ) (p : PipeQ) : KQ := { K with pn := K.pn + 1, pipe := fun j => if j = K.pn + 1 then p else K.pipe j }
def KLay.addP (L : KLay) (n xb lb : Nat) (m : Option Nat) : KLay := { L with pm := m, pb := fun j => if j = n + 1 then xb else L.pb j, lb := fun j => if j = n + 1 then lb else L.lb j, o := fun x => if x = xb ∨ x = lb then some (tPip (n + 1)) else if m = some x then some (tMap 0) else L.o x }
theorem pipeV_addP {L : KLay} {n xb lb : Nat} {m : Option Nat} {d : DescQ} (h : d.kind = 3 ∨ d.kind = 4 → d.n ≤ n) : pipeV (L.addP n xb lb m) d = pipeV L d := by
  unfold pipeV
  by_cases e : d.kind = 3 ∨ d.kind = 4
  · rw [if_pos e, if_pos e]
    have := h e
    show ptrAt (if d.n = n + 1 then xb else L.pb d.n) = _
    rw [if_neg (by omega)]
  · rw [if_neg e, if_neg e]
theorem KF.addP (h : KF w k K L) {xb lb : Nat} {m : Option Nat} {p : PipeQ} {fm : Nat} {cs : Array Value} (hk : w'.heap[k]? = some (.cells (kerC { L with pm := m } { K with pn := K.pn + 1 }) 70 (0, 0)))
    (hr : RegV w' m (fun j => if j = K.pn + 1 then true else (K.pipe j).inn) (fun j => if j = K.pn + 1 then xb else L.pb j) (K.pn + 1)) (hin : p.inn = true)
    (hb : PipeF w' xb lb 64 fm p.data p.r p.x cs) (hxo : L.o xb = none) (hlo : L.o lb = none) (hm : m = L.pm ∨ ∃ g, m = some g ∧ L.o g = none ∧ g < w'.heap.size ∧ g ≠ xb ∧ g ≠ lb)
    (hf : Fr T w w') (hT : ∀ b t, L.o b = some t → T b → b = k ∨ L.pm = some b) (hpd : ∀ j, 1 ≤ j → j ≤ K.dn → (K.desc j).kind = 3 ∨ (K.desc j).kind = 4 → (K.desc j).n ≤ K.pn) : KF w' k (K.addP p) (L.addP K.pn xb lb m) := by
  have hml : ∀ g, m = some g → g < w'.heap.size := fun g e => by subst e; exact hr.lt
  have hold : ∀ b t, L.o b = some t → (L.addP K.pn xb lb m).o b = some t := fun b t e => by
    show (if b = xb ∨ b = lb then some (tPip (K.pn + 1)) else if m = some b then some (tMap 0) else L.o b) = some t
    rw [if_neg (fun e2 => by
      rcases e2 with e2 | e2
      · rw [e2, hxo] at e; cases e
      · rw [e2, hlo] at e; cases e)]
    by_cases e2 : m = some b
    · rw [if_pos e2]
      rcases hm with hm | ⟨g, g1, g2, _⟩
      · rw [h.opm b (hm ▸ e2)] at e; exact e
      · rw [g1] at e2; cases e2; rw [g2] at e; cases e
    · rw [if_neg e2]; exact e
  have ho : Own2 L (L.addP K.pn xb lb m).o w' := ⟨hold, fun b hb2 => by
    show (if b = xb ∨ b = lb then some (tPip (K.pn + 1)) else if m = some b then some (tMap 0) else L.o b) = none
    rw [if_neg (fun e2 => by have := blk_lt hb.hb; have := blk_lt hb.hl; omega), if_neg (fun e2 => by have := hml b e2; omega)]
    exact h.new b (Nat.le_trans hf.size hb2)⟩
  have off : ∀ {t : Nat × Nat}, t ≠ tKer → t ≠ tMap 0 → ∀ {b : Nat}, L.o b = some t → ¬ T b := fun h1 h2 b e => tag_tm h hT h.opm e h1 h2
  exact
    { hk := hk
      files := h.files_keep hf ho fun b _ e => off (by simp) (by simp) e
      pr := hr.congr fun j _ _ => ⟨by show _ = (if j = K.pn + 1 then p else K.pipe j).inn; by_cases e : j = K.pn + 1; (· rw [if_pos e, if_pos e, hin]); (· rw [if_neg e, if_neg e]), rfl⟩
      dr := h.dr.frame hf fun g e => off (by simp) (by simp) (h.odm g e)
      qr := h.qr.frame hf fun g e => off (by simp) (by simp) (h.oqm g e)
      hd := fun j g1 g2 => by
        have e : descC (L.addP K.pn xb lb m) j (K.desc j) = descC L j (K.desc j) := by
          unfold descC
          rw [pipeV_addP fun e => hpd j g1 g2 e]
        show w'.heap[L.db j]? = some (Obj.cells (descC (L.addP K.pn xb lb m) j (K.desc j)) 84 (0, 0))
        rw [e]
        exact hf.get (h.hd j g1 g2) (off (by simp) (by simp) (h.od j g1 g2))
      hq := fun j g1 g2 => hf.get (h.hq j g1 g2) (off (by simp) (by simp) (h.oq j g1 g2))
      ht := fun j g1 g2 => h.tab_keep hf ho g1 g2 fun b _ e => off (by simp) (by simp) e
      hp := fun j g1 g2 => by
        have g2 : j ≤ K.pn + 1 := g2
        show ∃ fm cs, PipeF w' (if j = K.pn + 1 then xb else L.pb j) (if j = K.pn + 1 then lb else L.lb j) 64 fm (if j = K.pn + 1 then p else K.pipe j).data (if j = K.pn + 1 then p else K.pipe j).r (if j = K.pn + 1 then p else K.pipe j).x cs
        by_cases e : j = K.pn + 1
        · rw [if_pos e, if_pos e, if_pos e]; exact ⟨fm, cs, hb⟩
        · rw [if_neg e, if_neg e, if_neg e]; exact h.pipe_keep hf g1 (by omega) fun b e2 => off (by simp) (by simp) e2
      ok := hold _ _ h.ok
      opm := fun g e => by
        show (if g = xb ∨ g = lb then some (tPip (K.pn + 1)) else if m = some g then some (tMap 0) else L.o g) = some (tMap 0)
        have e : m = some g := e
        rw [if_neg (fun e2 => by
          rcases hm with hm | ⟨g', g1, _, _, g2, g3⟩
          · rw [hm] at e
            have := h.opm g e
            rcases e2 with e2 | e2
            · rw [e2, hxo] at this; cases this
            · rw [e2, hlo] at this; cases this
          · rw [g1] at e; cases e; rcases e2 with e2 | e2; (· exact g2 e2); (· exact g3 e2)), if_pos e]
      odm := fun g e => hold _ _ (h.odm g e)
      oqm := fun g e => hold _ _ (h.oqm g e)
      od := fun j g1 g2 => hold _ _ (h.od j g1 g2)
      oq := fun j g1 g2 => hold _ _ (h.oq j g1 g2)
      op := fun j g1 g2 => by
        have g2 : j ≤ K.pn + 1 := g2
        show (L.addP K.pn xb lb m).o (if j = K.pn + 1 then xb else L.pb j) = some (tPip j) ∧ (L.addP K.pn xb lb m).o (if j = K.pn + 1 then lb else L.lb j) = some (tPip j)
        by_cases e : j = K.pn + 1
        · rw [if_pos e, if_pos e, e]; exact ⟨if_pos (.inl rfl), if_pos (.inr rfl)⟩
        · rw [if_neg e, if_neg e]; exact ⟨hold _ _ (h.op j g1 (by omega)).1, hold _ _ (h.op j g1 (by omega)).2⟩
      new := ho.new }
def KQ.addQ (K : KQ) (q : ProcQ) : KQ := { K with qn := K.qn + 1, proc := fun j => if j = K.qn + 1 then q else K.proc j }
open Classical in
noncomputable def KLay.addQ (L : KLay) (n xb tb : Nat) (X : Nat → Prop) (m : Option Nat) : KLay := { L with qm := m, qb := fun j => if j = n + 1 then xb else L.qb j, tb := fun j => if j = n + 1 then tb else L.tb j, o := fun x => if x = xb then some (tPrc (n + 1)) else if X x then some (tTab (n + 1)) else if m = some x then some (tMap 2) else L.o x }
open Classical in
theorem addQ_new {L : KLay} {n xb tb : Nat} {X : Nat → Prop} {m : Option Nat} {b : Nat} (h : (L.addQ n xb tb X m).o b ≠ none) : L.o b ≠ none ∨ b = xb ∨ X b ∨ m = some b := by
  by_cases e1 : b = xb
  · exact .inr (.inl e1)
  by_cases e2 : X b
  · exact .inr (.inr (.inl e2))
  by_cases e3 : m = some b
  · exact .inr (.inr (.inr e3))
  refine .inl fun e => h ?_
  show (if b = xb then some (tPrc (n + 1)) else if X b then some (tTab (n + 1)) else if m = some b then some (tMap 2) else L.o b) = none
  rw [if_neg e1, if_neg e2, if_neg e3, e]
open Classical in
theorem KF.addQ (h : KF w k K L) {xb tb : Nat} {X : Nat → Prop} {m : Option Nat} {q : ProcQ} (hk : w'.heap[k]? = some (.cells (kerC { L with qm := m } { K with qn := K.qn + 1 }) 70 (0, 0)))
    (hr : RegV w' m (fun j => if j = K.qn + 1 then true else (K.proc j).inn) (fun j => if j = K.qn + 1 then xb else L.qb j) (K.qn + 1)) (hin : q.inn = true)
    (hb : w'.heap[xb]? = some (.cells (procC (L.addQ K.qn xb tb X m) (K.qn + 1) q) 76 (0, 0))) (htb : TabAt w' tb (tabS L q.fds) (fun b => X b ∨ w'.heap.size ≤ b)) (hxo : L.o xb = none) (hXo : ∀ b, X b → L.o b = none ∧ b < w'.heap.size ∧ b ≠ xb) (hm : m = L.qm ∨ ∃ g, m = some g ∧ L.o g = none ∧ g < w'.heap.size ∧ g ≠ xb ∧ ¬ X g)
    (hf : Fr T w w') (hT : ∀ b t, L.o b = some t → T b → b = k ∨ L.qm = some b) : KF w' k (K.addQ q) (L.addQ K.qn xb tb X m) := by
  have hml : ∀ g, m = some g → g < w'.heap.size := fun g e => by subst e; exact hr.lt
  have hold : ∀ b t, L.o b = some t → (L.addQ K.qn xb tb X m).o b = some t := fun b t e => by
    show (if b = xb then some (tPrc (K.qn + 1)) else if X b then some (tTab (K.qn + 1)) else if m = some b then some (tMap 2) else L.o b) = some t
    rw [if_neg (fun e2 => by rw [e2, hxo] at e; cases e), if_neg (fun e2 => by rw [(hXo b e2).1] at e; cases e)]
    by_cases e2 : m = some b
    · rw [if_pos e2]
      rcases hm with hm | ⟨g, g1, g2, _⟩
      · rw [h.oqm b (hm ▸ e2)] at e; exact e
      · rw [g1] at e2; cases e2; rw [g2] at e; cases e
    · rw [if_neg e2]; exact e
  have ho : Own2 L (L.addQ K.qn xb tb X m).o w' := ⟨hold, fun b hb2 => by
    show (if b = xb then some (tPrc (K.qn + 1)) else if X b then some (tTab (K.qn + 1)) else if m = some b then some (tMap 2) else L.o b) = none
    rw [if_neg (fun e2 => by have := blk_lt hb; omega), if_neg (fun e2 => by have := (hXo b e2).2.1; omega), if_neg (fun e2 => by have := hml b e2; omega)]
    exact h.new b (Nat.le_trans hf.size hb2)⟩
  have off : ∀ {t : Nat × Nat}, t ≠ tKer → t ≠ tMap 2 → ∀ {b : Nat}, L.o b = some t → ¬ T b := fun h1 h2 b e => tag_tm h hT h.oqm e h1 h2
  exact
    { hk := hk
      files := h.files_keep hf ho fun b _ e => off (by simp) (by simp) e
      pr := h.pr.frame hf fun g e => off (by simp) (by simp) (h.opm g e)
      dr := h.dr.frame hf fun g e => off (by simp) (by simp) (h.odm g e)
      qr := hr.congr fun j _ _ => ⟨by show _ = (if j = K.qn + 1 then q else K.proc j).inn; by_cases e : j = K.qn + 1; (· rw [if_pos e, if_pos e, hin]); (· rw [if_neg e, if_neg e]), rfl⟩
      hd := fun j g1 g2 => hf.get (h.hd j g1 g2) (off (by simp) (by simp) (h.od j g1 g2))
      hq := fun j g1 g2 => by
        have g2 : j ≤ K.qn + 1 := g2
        show w'.heap[if j = K.qn + 1 then xb else L.qb j]? = some (Obj.cells (procC (L.addQ K.qn xb tb X m) j (if j = K.qn + 1 then q else K.proc j)) 76 (0, 0))
        by_cases e : j = K.qn + 1
        · rw [if_pos e, if_pos e, e]; exact hb
        · rw [if_neg e, if_neg e]
          have e2 : procC (L.addQ K.qn xb tb X m) j (K.proc j) = procC L j (K.proc j) := by
            unfold procC
            show #[_, _, _, _, _, _, ptrAt (if j = K.qn + 1 then tb else L.tb j)] = _
            rw [if_neg e]
          rw [e2]
          exact hf.get (h.hq j g1 (by omega)) (off (by simp) (by simp) (h.oq j g1 (by omega)))
      ht := fun j g1 g2 => by
        have g2 : j ≤ K.qn + 1 := g2
        show TabAt w' (if j = K.qn + 1 then tb else L.tb j) (tabS L (if j = K.qn + 1 then q else K.proc j).fds) _
        by_cases e : j = K.qn + 1
        · rw [if_pos e, if_pos e, e]
          refine htb.mono fun b e2 => ?_
          rcases e2 with e2 | e2
          · refine .inl ?_
            show (if b = xb then some (tPrc (K.qn + 1)) else if X b then some (tTab (K.qn + 1)) else if m = some b then some (tMap 2) else L.o b) = _
            rw [if_neg (hXo b e2).2.2, if_pos e2]
          · exact .inr e2
        · rw [if_neg e, if_neg e]; exact h.tab_keep hf ho g1 (by omega) fun b _ e2 => off (by simp) (by simp) e2
      hp := fun j g1 g2 => h.pipe_keep hf g1 g2 fun b e => off (by simp) (by simp) e
      ok := hold _ _ h.ok
      opm := fun g e => hold _ _ (h.opm g e)
      odm := fun g e => hold _ _ (h.odm g e)
      oqm := fun g e => by
        show (if g = xb then some (tPrc (K.qn + 1)) else if X g then some (tTab (K.qn + 1)) else if m = some g then some (tMap 2) else L.o g) = some (tMap 2)
        have e : m = some g := e
        have h9 : g ≠ xb ∧ ¬ X g := by
          rcases hm with hm | ⟨g', g1, _, _, g2, g3⟩
          · rw [hm] at e
            have := h.oqm g e
            exact ⟨fun e2 => (by rw [e2, hxo] at this; cases this), fun e2 => (by rw [(hXo g e2).1] at this; cases this)⟩
          · rw [g1] at e; cases e; exact ⟨g2, g3⟩
        rw [if_neg h9.1, if_neg h9.2, if_pos e]
      od := fun j g1 g2 => hold _ _ (h.od j g1 g2)
      oq := fun j g1 g2 => by
        have g2 : j ≤ K.qn + 1 := g2
        show (L.addQ K.qn xb tb X m).o (if j = K.qn + 1 then xb else L.qb j) = some (tPrc j)
        by_cases e : j = K.qn + 1
        · rw [if_pos e, e]; exact if_pos rfl
        · rw [if_neg e]; exact hold _ _ (h.oq j g1 (by omega))
      op := fun j g1 g2 => ⟨hold _ _ (h.op j g1 g2).1, hold _ _ (h.op j g1 g2).2⟩
      new := ho.new }
end
end Go.Proofs.YtdnbfhcbcdodmaaGreatDoor
