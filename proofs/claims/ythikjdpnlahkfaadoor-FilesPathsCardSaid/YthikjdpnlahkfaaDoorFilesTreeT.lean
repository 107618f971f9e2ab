/- files.FS.Tree and shyardlaw08.tree. Conditions: the contracts' own premises. -/
import Derived.Test.YthikjdpnlahkfaaDoorFilesTree
import Derived.Test.YthikjdpnlahkfaaDoorFilesTreeN
import Derived.Maps.OwnIn
namespace Go.Proofs.YthikjdpnlahkfaaDoor
open Go.RowKit Go.Shelf Go.Maps

attribute [local go_sem] Oper.semAt_some

theorem fyield_wide {P : Program} {m m' l : Nat} {args : Array Value} {W : World} {R : Ending → World → Prop} (h : YieldAt FW m P l args W R) : YieldAt FW m' P l args W R := by
  obtain ⟨fn, tmps, assign, body, h1, h2, h3⟩ := h
  exact ⟨fn, tmps, assign, body, h1, h2, fun c cs _ => h3 c cs (room_wide _)⟩
/-- A step through a list: its next thing. -/
def FStep {α : Type} (L : List α) (s : Nat) (x : α) (s' : Nat) : Prop := ∃ h : s < L.length, x = L[s] ∧ s' = s + 1
def FFin {α : Type} (L : List α) (s : Nat) : Prop := s = L.length
theorem Tree_some (b : Nat) (w : World) : Calls Tryd.prog 25 #[.pointer (some ⟨b, 0, none⟩)] w fun e w' =>
    e = .returned (.func (.func 45) #[] #[.pointer (some ⟨w.heap.size, 0, none⟩)]) ∧ w' = w.alloc (.cells #[.pointer (some ⟨b, 0, none⟩)] 23 (0, 0)) := by
  go_enter Tryd.func25, Tryd.ntmps25
  go_wp2
  go_ret
  exact ⟨rfl, rfl⟩
set_option maxRecDepth 100000 in
theorem ftree1_iter {σ : FSt} {f : Nat} {S : Nat → Prop} {p : Nat → Nat} (hV : Inv σ 0) (hcap : CapB σ) (n box : Nat) (I : Nat → (Nat → Prop) → World → Prop)
    (hI : ∀ s A W, I s A W → FilesAt W f σ S p ∧ W.cell? ⟨box, 0, none⟩ = some (.pointer (some ⟨f, 0, none⟩)))
    (l : Nat) (J : Nat → (Nat → Prop) → World → Prop) (Jx : (Nat → Prop) → World → Prop) (W : World) (hJI : ∀ s A W, J s A W → I s A W)
    (hJf : ∀ s (A : Nat → Prop) W W', J s A W → Fr (fun k => ¬ A k) W W' → J s A W') (_ : ∀ (A : Nat → Prop) W W', Jx A W → Fr (fun k => ¬ A k) W W' → Jx A W') (hJA : ∀ s A W, J s A W → ∀ k, A k → k < W.heap.size)
    (hY : ∀ s A x s' W, FStep (treeL σ) s x s' → J s A W → YieldAt FW (n - 1) Tryd.prog l (eenc x) W fun e W' => Fr A W W' ∧ ((e = .returned (.bool true) ∧ J s' (fun k => A k ∨ (W.heap.size ≤ k ∧ k < W'.heap.size)) W') ∨ (e = .returned (.bool false) ∧ Jx (fun k => A k ∨ (W.heap.size ≤ k ∧ k < W'.heap.size)) W')))
    (h0 : J 0 (fun k => k < W.heap.size) W) :
    CallsIn FW n Tryd.prog 45 (#[.func (.yield l) #[] #[]] ++ #[.pointer (some ⟨box, 0, none⟩)]) W fun e W' => (∃ v, e = .returned v) ∧ ((∃ s A, FFin (treeL σ) s ∧ J s A W') ∨ ∃ A, Jx A W') := by
  simp only [List.append_toArray, List.cons_append, List.nil_append]
  refine callsIn_wide.2 ?_
  obtain ⟨hA, hbox⟩ := hI _ _ _ (hJI _ _ _ h0)
  obtain ⟨r, hr, hrd, _⟩ := hA.live.root
  have c2 : W.cell? ⟨f, 2, none⟩ = some (.pointer (some ⟨p 1, 0, none⟩)) := by obtain ⟨_, _, _, _, hF⟩ := hA; rw [blk_cell hF.hb]; rfl
  have hrec := below_any (L := treeL σ) (l := l) (Jx := Jx) hV hcap (fun s A W h => (hI _ _ _ (hJI s A W h)).1) hJf hJA (fun s A W h hj => fyield_wide (hY s A _ _ W ⟨h, rfl, rfl⟩ hj)) 101 1 0 0 [] _ W [] r hr hrd (.base (.inl rfl)) rfl (by simp) (by simp [treeL]) h0
  rw [show baL [] = (⟨#[]⟩ : ByteArray) from rfl] at hrec
  have hrec := hide hrec
  have hend : FFin (treeL σ) (0 + (treeF σ 101 [] 1).length) := by unfold FFin treeL; omega
  have Hend := hide hend
  clear hA hr hrd h0 hend hI hJI hJf hJA hY
  refine (callsIn_wide (n := 5)).1 ?_
  refine callsIn_of_wp_marks Tryd.func45 rfl trivial ?_ rfl
  simp only [Tryd.ntmps45, List.size_toArray, List.length_cons, List.length_nil, Nat.reduceAdd, Nat.reduceSub, Array.replicate_succ, Array.replicate_zero, List.push_toArray, List.append_toArray, List.nil_append, List.cons_append]
  gi_wp2_with (refine ⟨trivial, ?_⟩; gi_at_call 46; refine (callsIn_wide.2 hrec.out).mono ?_; rintro e w' ⟨_, (⟨rfl, A', hJ', _⟩ | ⟨rfl, A', hJ'⟩)⟩)
  · exact ⟨_, results_none rfl _ _ _, ⟨_, rfl⟩, .inl ⟨_, A', Hend.out, hJ'⟩⟩
  · exact ⟨_, results_none rfl _ _ _, ⟨_, rfl⟩, .inr ⟨A', hJ'⟩⟩
theorem Tryd.infoEntry : (Tryd.prog.info? 56).map (fun i => (i.zero, i.size, i.bytes)) = some (some (.agg #[.string ⟨#[]⟩, .int .i64 0, .int .i64 0, .string ⟨#[]⟩]), 4, 48) := by kernel_rfl
def entC (x : EntQ) : List Value := [.string (baL x.path), .int .i64 x.kind, .int .i64 x.mode, .string (baL x.data)]
def entCells (L : List EntQ) : List Value := (L.map entC).flatten
theorem entCells_length (L : List EntQ) : (entCells L).length = L.length * 4 := by
  induction L with
  | nil => rfl
  | cons x L ih =>
    unfold entCells at ih ⊢
    simp only [List.map_cons, List.flatten_cons, List.length_append, ih, List.length_cons]
    simp [entC]
    omega
theorem entCells_take (L : List EntQ) (k : Nat) (hk : k < L.length) : entCells (L.take (k + 1)) = entCells (L.take k) ++ entC L[k] := by
  unfold entCells
  rw [List.take_succ_eq_append_getElem hk, List.map_append, List.flatten_append]
  simp
/-- A row of entries. -/
def EntRow (w : World) (base : Nat) (v : Value) (L : List EntQ) : Prop := w.ownsRow base 56 4 v L.length (entCells L)
def tactx (f h : Nat) (x : EntQ) (xb : Nat) : Act := ⟨#[.pointer (some ⟨f, 0, none⟩), undef, .slice none 0 0, .pointer (some ⟨h, 0, none⟩), .pointer (some ⟨xb, 0, none⟩), .pointer (some ⟨f, 0, none⟩), .func (.func 45) #[] #[.pointer (some ⟨h + 1, 0, none⟩)], entV x,
  undef, undef, undef, undef, undef], []⟩
def TreePost (σ : FSt) (w : World) (e : Ending) (w' : World) : Prop := ∃ v, e = .returned v ∧ EntRow w' w.heap.size v (treeL σ) ∧ Fr (fun _ => False) w w'
structure TreeI (w : World) (f : Nat) (L : List EntQ) (s : Nat) (A : Nat → Prop) (W : World) : Prop where
  le : s ≤ L.length
  lo : ∀ k, k < w.heap.size + 4 → A k
  bl : ∃ v, W.heap[w.heap.size]? = some (.cells #[v] 42 (0, 0)) ∧ W.ownsRow (w.heap.size + 4) 56 4 v s (entCells (L.take s)) ∧ ∀ g, v.ownBlock = some g → A g
  bi : W.heap[w.heap.size + 1]? = some (.cells #[.pointer (some ⟨f, 0, none⟩)] 23 (0, 0))
  fr : Fr (fun _ => False) w W
theorem TreeI.frame {w W W' : World} {f : Nat} {L : List EntQ} {s : Nat} {A : Nat → Prop} (h : TreeI w f L s A W) (hf : Fr (fun k => k = w.heap.size + 2 ∨ k = w.heap.size + 3 ∨ ¬ A k) W W') : TreeI w f L s A W' := by
  obtain ⟨v, h1, h2, h3⟩ := h.bl
  have hno : ∀ k, k ≠ w.heap.size + 2 → k ≠ w.heap.size + 3 → A k → ¬ (k = w.heap.size + 2 ∨ k = w.heap.size + 3 ∨ ¬ A k) := fun k h1 h2 h3 e => by
    rcases e with e | e | e
    · exact h1 e
    · exact h2 e
    · exact e h3
  exact ⟨h.le, h.lo, ⟨v, hf.get h1 (hno _ (by omega) (by omega) (h.lo _ (by omega))), own_frame h2 hf (fun g e => hno _ (by have := (h2.lt g e).1; omega) (by have := (h2.lt g e).1; omega) (h3 g e)), h3⟩,
    hf.get h.bi (hno _ (by omega) (by omega) (h.lo _ (by omega))), h.fr.trans' hf (fun i hi e => hno _ (by omega) (by omega) (h.lo _ (by omega)) e)⟩
set_option maxRecDepth 100000 in
set_option maxHeartbeats 4000000 in
theorem tree_any (w : World) (f : Nat) (σ : FSt) (S : Nat → Prop) (p : Nat → Nat) (h : FilesAt w f σ S p) (hV : Inv σ 0) (hc : Caps σ 1000000) :
    Calls Tryd.prog 19 #[.pointer (some ⟨f, 0, none⟩)] w (TreePost σ w) := by
  have hcap : CapB σ := fun i n hn => by have := hc i n hn; omega
  have hcount := treeL_count hV h.live hc
  obtain ⟨i0, hinf, hz0, hz1, hz2⟩ := info_parts Tryd.infoEntry
  refine (callsIn_wide (n := 8)).1 ?_
  refine callsIn_of_wp_marks Tryd.func19 rfl trivial ?_ rfl
  simp only [Tryd.ntmps19, List.size_toArray, List.length_cons, List.length_nil, Nat.reduceAdd, Nat.reduceSub, Array.replicate_succ, Array.replicate_zero, List.push_toArray, List.append_toArray, List.nil_append, List.cons_append]
  gi_wp2_with (refine ⟨trivial, ?_⟩; gi_at_call 25; refine (callsIn_wide.2 (Tree_some f _)).mono ?_; rintro e w' ⟨rfl, rfl⟩)
  have hbl := blk_alloc (blk_new w (.cells #[.slice none 0 0] 42 (0, 0))) (.cells #[.pointer (some ⟨f, 0, none⟩)] 23 (0, 0))
  have hbi := blk_new' (w.alloc (.cells #[.slice none 0 0] 42 (0, 0))) (.cells #[.pointer (some ⟨f, 0, none⟩)] 23 (0, 0)) (w.heap.size + 1) (by simp)
  have hz : ((w.alloc (.cells #[.slice none 0 0] 42 (0, 0))).alloc (.cells #[.pointer (some ⟨f, 0, none⟩)] 23 (0, 0))).heap.size = w.heap.size + 2 := by simp
  have hfw : Fr (fun _ => False) w ((w.alloc (.cells #[.slice none 0 0] 42 (0, 0))).alloc (.cells #[.pointer (some ⟨f, 0, none⟩)] 23 (0, 0))) := ((Fr.refl _ _).alloc _).alloc _
  generalize ((w.alloc (.cells #[.slice none 0 0] 42 (0, 0))).alloc (.cells #[.pointer (some ⟨f, 0, none⟩)] 23 (0, 0))) = w1 at *
  obtain ⟨L, hLe⟩ : ∃ L, Hid (L = treeL σ) := ⟨_, hide rfl⟩
  have hI0 : TreeI w f L 0 (fun k => k < w1.heap.size + 2) w1 := ⟨by omega, fun k hk => by omega, ⟨_, hbl, by simpa [entCells] using World.ownsRow_nil _ _ _ _, fun g e => by cases e⟩, hbi, hfw⟩
  clear hbl hbi hfw
  refine rf_law3 (α := EntQ) (σ := Nat) 45 #[.pointer (some ⟨w.heap.size + 1, 0, none⟩)] rfl (enters_of Tryd.func45 (by kernel_rfl) rfl) eenc (fun _ => rfl)
    (FStep L) (FFin L) 0 (TreeI w f L) (fun _ _ _ => False)
    (fun s A X Y h1 hf => h1.frame (by rw [hz] at hf; exact hf)) ?hImono (fun _ _ _ _ h _ => h) (fun _ _ _ _ h _ => h) hI0 ?hiter
    (fun x a' W' => ∃ xb : Nat, a' = tactx f w.heap.size x xb ∧ w1.heap.size + 2 ≤ xb ∧ W'.heap[xb]? = some (.cells #[.string (baL x.path), .int .i64 x.kind, .int .i64 x.mode, .string (baL x.data)] 56 (0, 0))) ?hAx ?assign ?body ?done ?stop
  case hImono =>
    rintro s A A' X h1 hA
    obtain ⟨v, k1, k2, k3⟩ := h1.bl
    exact ⟨h1.le, fun k hk => hA _ (h1.lo k hk), ⟨v, k1, k2, fun g e => hA _ (k3 g e)⟩, h1.bi, h1.fr⟩
  case hiter =>
    intro l' J' Jx' W' hJI' hJf' hJxf' hJA' hY' h0'
    obtain rfl := hLe.out
    refine ftree1_iter (f := f) (S := S) (p := p) hV hcap (8 - 1) (w.heap.size + 1) (TreeI w f (treeL σ)) ?_ l' J' Jx' W' hJI' hJf' hJxf' hJA' hY' h0'
    intro s A X h1
    exact ⟨h.frame h1.fr (fun _ _ _ e => e), by rw [blk_cell h1.bi]; rfl⟩
  case hAx =>
    rintro x a' X Y ⟨xb, h1, h2, h5⟩ hf
    exact ⟨xb, h1, h2, hf.get h5 (by omega)⟩
  case assign =>
    rintro l' s A x s' X K _ _ hsz hK
    have hK := hide hK
    simp only [eenc, entV]
    gi_wp2
    exact hK.out _ _ ((Fr.refl _ _).alloc _) ⟨X.heap.size, rfl, hsz, blk_new _ _⟩
  case body =>
    rintro l' s A x s' a' X ⟨hlt, hxx, rfl⟩ hI ⟨xb, rfl, g11, g12⟩ hsz hA0 hA1
    obtain ⟨le, lo, ⟨v, k1, k2, k3⟩, bi, fr⟩ := hI
    have htk := entCells_take L s hlt
    rw [← hxx] at htk
    have Htk := hide htk
    have hlen := hlt
    rw [hLe.out] at hlen
    obtain ⟨va, vc, rfl⟩ := own_form k2
    have c1 : X.cell? ⟨w.heap.size, 0, none⟩ = some (.slice va s vc) := by rw [blk_cell k1]; rfl
    have z1 := blk_frozen k1
    have c2 : X.cell? ⟨xb, 0, none⟩ = some (.string (baL x.path)) := by rw [blk_cell g12]; rfl
    have c3 : X.cell? ⟨xb, 1, none⟩ = some (.int .i64 x.kind) := by rw [blk_cell g12]; rfl
    have c4 : X.cell? ⟨xb, 2, none⟩ = some (.int .i64 x.mode) := by rw [blk_cell g12]; rfl
    have c6 : X.cell? ⟨xb, 3, none⟩ = some (.string (baL x.data)) := by rw [blk_cell g12]; rfl
    clear htk hxx g12 h
    unfold tactx
    gi_wp2_with (gi_at_builtin; refine wpListIn_append_own_at _ rfl _ _ 42 rfl (w.heap.size + 4) 56 i0 _ 4 48 Tryd.underlying42 hinf hz0 hz1 hz2 rfl (by decide) _ _ _ rfl (k2.alloc _) ⟨X.heap.size, 0, none⟩ 1 1 (entC x) rfl rfl ?c1 ?c2 ?c3 ?c4 ?c5 ?_)
    case c2 => first | rfl | (intro u hu; simp [entC] at hu; rcases hu with rfl | rfl | rfl | rfl <;> rfl)
    case c3 => unfold maxLen; omega
    case c4 => omega
    case c5 => first | omega | (simp only [World.size_alloc]; omega)
    case c1 =>
      intro j u hj
      have hadd : (⟨X.heap.size, 0, none⟩ : Addr).add j = ⟨X.heap.size, j, none⟩ := by unfold Addr.add; split <;> simp_all
      rw [hadd, blk_cell (blk_new _ _)]
      simpa [entC] using hj
    intro v' w3 hown' hgrow _ hat
    obtain ⟨va', vc', rfl⟩ := own_form hown'
    have hf1 : Fr (fun q => (Value.slice va s vc).ownBlock = some q) X w3 := ((Fr.refl _ _).alloc _).trans (Fr.of_grown hgrow)
    have hvb : ∀ q, (Value.slice va s vc).ownBlock = some q → w.heap.size + 4 ≤ q := fun q e => (k2.lt _ e).1
    have hs3 := hf1.size
    have k13 := hf1.get k1 (fun e => by have := hvb _ e; omega)
    have bi3 := hf1.get bi (fun e => by have := hvb _ e; omega)
    have hcell : w3.cell? ⟨w.heap.size, 0, none⟩ = some (.slice va s vc) := by rw [blk_cell k13]; rfl
    have hfz := blk_frozen k13
    have hset := frSet w3 w.heap.size 0 (.slice va' (s + 1) vc')
    have hfin := hide (show rfPost3 w1.heap.size A (TreeI w f L) (fun _ _ _ => False) (s + 1) X .normal ⟨#[], []⟩ (w3.setCell ⟨w.heap.size, 0, none⟩ (.slice va' (s + 1) vc')) from by
      have hall : Fr A X (w3.setCell ⟨w.heap.size, 0, none⟩ (.slice va' (s + 1) vc')) := (hf1.mono (fun k _ e => k3 k e)).trans (hset.mono (fun k _ e => e ▸ lo _ (by omega)))
      have hg2 : ∀ g, (Value.slice va' (s + 1) vc').ownBlock = some g → A g ∨ (X.heap.size ≤ g ∧ g < w3.heap.size) := fun g e => by
        rcases hat with hat | hat
        · rw [hat] at e; exact .inl (k3 g e)
        · rw [hat] at e
          simp only [Option.some.injEq] at e
          exact .inr ⟨by omega, (hown'.lt _ (by rw [hat, ← e])).2⟩
      have hb2 := blk_set k13 0 (.slice va' (s + 1) vc')
      refine ⟨⟨?_, ?_⟩, hall, hlt, fun k hk => .inl (lo k hk), ⟨_, hb2, ?_, fun g e => by simpa using hg2 g e⟩, blk_set_other bi3 _ _ (by simp), ?_⟩
      · rw [Below.heap_setCell _ _ _ _ (by simp; omega)]; exact hf1.block _ (by omega) (fun e => by have := hvb _ e; omega)
      · rw [Below.heap_setCell _ _ _ _ (by simp; omega)]; exact hf1.block _ (by omega) (fun e => by have := hvb _ e; omega)
      · rw [Htk.out]
        exact own_frame hown' hset (fun g e e2 => by have := (hown'.lt _ e).1; omega)
      · exact (fr.trans' hf1 (fun i hi e => by have := hvb _ e; omega)).trans' hset (fun i hi e => by omega))
    clear hf1 hset hown' hgrow k13 bi3 c1 z1 c2 c3 c4 c6
    gi_wp2
    exact hfin.out
  case done =>
    rintro s A X hfin hI hK
    obtain ⟨v, k1, k2, k3⟩ := hI.bl
    have hc : X.cell? ⟨w.heap.size, 0, none⟩ = some v := by rw [blk_cell k1]; rfl
    have hput : Fr (fun k => k = w1.heap.size) X (X.putObj w1.heap.size (.deferred none)) := fr_putObj _ rfl
    have hs : s = L.length := hfin
    subst hs
    rw [List.take_length, hLe.out] at k2
    have hfr := hI.fr
    have h9 : Fr (fun _ => False) w (X.putObj w1.heap.size (.deferred none)) := hfr.trans' hput (fun i hi e => by omega)
    have hfin := hide (show EntRow (X.putObj w1.heap.size (.deferred none)) w.heap.size v (treeL σ) ∧ Fr (fun _ => False) w (X.putObj w1.heap.size (.deferred none)) from ⟨own_base (own_frame k2 hput (fun g e e2 => by have := (k2.lt g e).1; omega)) (fun g e => by have := (k2.lt g e).1; omega), h9⟩)
    clear hI h9 hfr k2 h
    gi_wp2
    refine ⟨by simp, .inl ⟨_, _, rfl, run_takeDeferred hK, ?_⟩⟩
    exact ⟨_, results_tmp rfl _ _ _, v, rfl, hfin.out⟩
  case stop =>
    rintro c A W h9 _
    exact h9.elim
end Go.Proofs.YthikjdpnlahkfaaDoor
