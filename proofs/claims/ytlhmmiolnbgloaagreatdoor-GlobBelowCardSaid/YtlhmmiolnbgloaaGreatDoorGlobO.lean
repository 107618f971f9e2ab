/- slices.AppendSeq, Collect, Sorted over a pattern's paths; slices.Compact. Conditions: the contracts' own premises. -/
import Derived.Test.YtlhmmiolnbgloaaGreatDoorGlobN
import Derived.Maps.OwnIn
import Derived.Shelf.Slices.Cells
import Derived.Shelf.Sort.Plain
import Derived.Shelf.Slices.In.SortNone
namespace Go.Proofs.YtlhmmiolnbgloaaGreatDoor
open Go.RowKit Go.Shelf Go.Maps

attribute [local go_sem] Oper.semAt_some

theorem compact_snoc : ∀ (l : List (List UInt8)) (x : List UInt8), compactL (l ++ [x]) = if l.getLast? = some x then compactL l else compactL l ++ [x]
  | [], x => by simp [compactL]
  | [a], x => by
    show compactL [a, x] = _
    unfold compactL
    by_cases e : a = x
    · subst e; simp [compactL]
    · simp [compactL, e]
  | a :: b :: r, x => by
    have ih := compact_snoc (b :: r) x
    have e1 : (a :: b :: r).getLast? = (b :: r).getLast? := by simp
    rw [e1]
    show compactL (a :: b :: (r ++ [x])) = _
    have e2 : b :: (r ++ [x]) = (b :: r) ++ [x] := rfl
    unfold compactL
    rw [e2, ih]
    by_cases e : a = b
    · rw [if_pos e, if_pos e]
    · rw [if_neg e, if_neg e]
      split <;> simp
theorem compact_eq (zs : List (List UInt8)) : Lib.compact zs = compactL zs := by
  have key : ∀ m, m ≤ zs.length → Lib.compactUpTo zs.toArray m = compactL (zs.take m) := by
    intro m
    induction m with
    | zero => intro _; rfl
    | succ m ih =>
      intro hm
      rw [Lib.compactUpTo_succ, ih (by omega), List.take_succ_eq_append_getElem (by omega), compact_snoc]
      have hg : zs.toArray[m]! = zs[m] := by rw [getElem!_pos _ m (by simp; omega)]; simp
      rw [hg]
      cases m with
      | zero => simp [Lib.keeps, compactL]
      | succ m =>
        have hl : (zs.take (m + 1)).getLast? = some zs[m] := by
          rw [List.take_succ_eq_append_getElem (by omega), List.getLast?_append]; simp
        have hg2 : zs.toArray[m + 1 - 1]! = zs[m] := by rw [getElem!_pos _ _ (by simp; omega)]; simp
        rw [hl]
        by_cases e : zs[m] = zs[m + 1]
        · have : Lib.keeps zs.toArray (m + 1) = false := Lib.keeps_neg (by omega) (by rw [hg, hg2, e])
          simp [this, e]
        · have : Lib.keeps zs.toArray (m + 1) = true := Lib.keeps_pos (by rw [hg, hg2]; exact fun h => e h.symm)
          simp [this, e]
  unfold Lib.compact
  rw [key _ (Nat.le_refl _), List.take_length]
theorem compact_len (l : List (List UInt8)) : (compactL l).length ≤ l.length := by rw [← compact_eq]; exact Lib.compact_length_le l
theorem sum_le_sum {α : Type} {f g : α → Nat} : ∀ {l : List α}, (∀ x ∈ l, f x ≤ g x) → (l.map f).sum ≤ (l.map g).sum
  | [], _ => Nat.le_refl _
  | x :: l, h => by
    have := sum_le_sum (f := f) (g := g) (l := l) fun y hy => h y (List.mem_cons_of_mem _ hy)
    have := h x (by simp)
    simp only [List.map_cons, List.sum_cons]
    omega
theorem paths_len {σ : FSt} {d : Nat} : ∀ (fuel : Nat) (far : List UInt8) (p : List Ch), (pathsP σ d fuel far p).length ≤ triesP σ d fuel far p + 1
  | 0, _, _ => by simp [pathsP]
  | fuel + 1, far, p => by
    by_cases hp : p = []
    · subst hp
      rw [paths_end]
      split <;> simp
    · rw [paths_step hp, tries_step hp, List.length_flatMap]
      have := sum_le_sum (f := fun a => (subP σ d fuel far p a).length) (g := subT σ d fuel far p) (l := namesP σ d far (p.take (cutP p))) fun x _ => by
        unfold subP subT
        split
        · simp
        · have := paths_len (σ := σ) (d := d) fuel (nextP far p x) (p.drop (skipP p))
          omega
      omega
theorem PtI.frame {σ : FSt} {f : Nat} {S : Nat → Prop} {pp : Nat → Nat} {T : Nat → Prop} {q bp bf bs : Nat} {pv : Value} {p : List Ch} {far : ByteArray} {W W' : World} (h : PtI σ f S pp T q bp bf bs pv p far W) (hf : Fr (fun k => k = q) W W')
    (hq : ¬ S q ∧ q ≠ Tryz.laysSplit_ren.g 1 ∧ ¬ T q ∧ bp ≠ q ∧ bf ≠ q ∧ bs ≠ q) : PtI σ f S pp T q bp bf bs pv p far W' := by
  obtain ⟨h1, h2, h3, h4, h5, h6⟩ := hq
  have hc : ∀ (b : Nat) (v : Value), b ≠ q → W.cell? ⟨b, 0, none⟩ = some v → W'.cell? ⟨b, 0, none⟩ = some v := fun b v hb hv => (World.cell?_of_block (a := ⟨b, 0, none⟩) (hf.block b (World.block_lt_of_cell? _ _ hv) (fun e => hb e))).trans hv
  exact ⟨h.fa.frame hf (fun k _ hk e => h1 (e ▸ hk)), h.ml.frame hf (fun e => h2 e.symm), h.ch.frame hf (fun k _ hk e => h3 (e ▸ hk)), hc _ _ h4 h.cp, hc _ _ h5 h.cf, hc _ _ h6 h.cs⟩
/-- Between two paths. -/
structure ColI (w0 : World) (q : Nat) (L : List (List UInt8)) (s : Nat) (A : Nat → Prop) (W : World) : Prop where
  le : s ≤ L.length
  nq : ¬ A q
  lo : ∀ k, k < w0.heap.size + 3 → k ≠ q → A k
  bl : ∃ v, W.heap[w0.heap.size]? = some (.cells #[v] 28 (0, 0)) ∧ W.ownsRow (w0.heap.size + 3) 9 1 v s ((L.take s).map nenc) ∧ ∀ g, v.ownBlock = some g → A g
  fr : Fr (fun k => k = q) w0 W
theorem ColI.frame {w0 W W' : World} {q : Nat} {L : List (List UInt8)} {s : Nat} {A : Nat → Prop} (hq : q < w0.heap.size) (h : ColI w0 q L s A W) (hf : Fr (fun k => k = w0.heap.size + 1 ∨ k = w0.heap.size + 2 ∨ ¬ A k) W W') : ColI w0 q L s A W' := by
  obtain ⟨v, h1, h2, h3⟩ := h.bl
  have hno : ∀ k, k ≠ w0.heap.size + 1 → k ≠ w0.heap.size + 2 → A k → ¬ (k = w0.heap.size + 1 ∨ k = w0.heap.size + 2 ∨ ¬ A k) := fun k h1 h2 h3 e => by
    rcases e with e | e | e
    · exact h1 e
    · exact h2 e
    · exact e h3
  refine ⟨h.le, h.nq, h.lo, ⟨v, hf.get h1 (hno _ (by omega) (by omega) (h.lo _ (by omega) (by omega))), own_frame h2 hf (fun g e => hno _ (by have := (h2.lt g e).1; omega) (by have := (h2.lt g e).1; omega) (h3 g e)), h3⟩, h.fr.trans' hf fun i hi e => ?_⟩
  apply Decidable.byContradiction
  intro hne
  exact hno i (by omega) (by omega) (h.lo i (by omega) hne) e
def ColPost (w0 : World) (q f d tt : Nat) (L : List (List UInt8)) (e : Ending) (w' : World) : Prop :=
  ∃ v, e = .returned v ∧ w'.ownsRow (w0.heap.size + 3) 9 1 v L.length (L.map nenc) ∧ Fr (fun k => k = q) w0 w' ∧ Seek w' q f d tt
theorem Tryz.infoStrO : (Tryz.prog.info? 9).map (fun i => (i.zero, i.size, i.bytes)) = some (some (.string ⟨#[]⟩), 1, 16) := by kernel_rfl
set_option maxRecDepth 100000 in
set_option maxHeartbeats 2000000 in
theorem aseq_any (σ : FSt) (f : Nat) (S : Nat → Prop) (pp : Nat → Nat) (T : Nat → Prop) (q d : Nat) (hcap : CapB σ) (hd : d ≤ 9223372036854775807) (fuel bp bf bs : Nat) (pv : Value) (p : List Ch) (far : ByteArray) (t0 : Nat) (w : World) (hpf : p.length < fuel) (hfar : far.size + 2000 * fuel ≤ 1000000) (htr : t0 + triesP σ d fuel far.data.toList p ≤ 1000)
    (hP : PtI σ f S pp T q bp bf bs pv p far w) (hs : Seek w q f d t0) (hq : ¬ S q ∧ q ≠ Tryz.laysSplit_ren.g 1 ∧ ¬ T q ∧ bp ≠ q ∧ bf ≠ q ∧ bs ≠ q) :
    Calls Tryz.prog 56 #[.slice none 0 0, .func (.func 39) #[] #[.pointer (some ⟨bp, 0, none⟩), .pointer (some ⟨bf, 0, none⟩), .pointer (some ⟨bs, 0, none⟩)]] w
      (ColPost w q f d (t0 + triesP σ d fuel far.data.toList p) (pathsP σ d fuel far.data.toList p)) := by
  obtain ⟨i0, hinf, hz0, hz1, hz2⟩ := info_parts Tryz.infoStrO
  obtain ⟨L, hL⟩ : ∃ L, L = pathsP σ d fuel far.data.toList p := ⟨_, rfl⟩
  obtain ⟨tt, htt⟩ : ∃ tt, tt = triesP σ d fuel far.data.toList p := ⟨_, rfl⟩
  have hlen : L.length ≤ 1001 := by rw [hL]; have := paths_len (σ := σ) (d := d) fuel far.data.toList p; omega
  have hqz : q < w.heap.size := by unfold Seek at hs; exact blk_lt hs
  rw [← hL, ← htt]
  have HL := hide hL
  have Htt := hide htt
  have Hlen := hide hlen
  have Hqz := hide hqz
  have HP := hide hP
  have Hs := hide hs
  have Hq := hide hq
  have Hpf := hide hpf
  have Hfar := hide hfar
  have Htr := hide htr
  clear hL htt hlen hqz hP hs hq hpf hfar htr
  refine (callsIn_wide (n := 8)).1 ?_
  refine callsIn_of_wp_marks Tryz.func56 rfl trivial ?_ rfl
  simp only [Tryz.ntmps56, List.size_toArray, List.length_cons, List.length_nil, Nat.reduceAdd, Nat.reduceSub, Array.replicate_succ, Array.replicate_zero, List.push_toArray, List.append_toArray, List.nil_append, List.cons_append]
  gi_wp2_with fail
  have hbl := blk_new w (.cells #[.slice none 0 0] 28 (0, 0))
  have hz : (w.alloc (.cells #[.slice none 0 0] 28 (0, 0))).heap.size = w.heap.size + 1 := by simp
  have hfw : Fr (fun _ => False) w (w.alloc (.cells #[.slice none 0 0] 28 (0, 0))) := (Fr.refl _ _).alloc _
  generalize (w.alloc (.cells #[.slice none 0 0] 28 (0, 0))) = w1 at *
  have hI0 : ColI w q L 0 (fun k => k < w1.heap.size + 2 ∧ ¬ k = q) w1 := ⟨by omega, fun e => e.2 rfl, fun k hk hne => ⟨by omega, hne⟩, ⟨_, hbl, by simpa using World.ownsRow_nil _ _ _ _, fun g e => by cases e⟩, hfw.mono fun _ _ e => e.elim⟩
  have Hfw := hide hfw
  have Hz := hide hz
  clear hbl hfw
  refine rf_law4a (α := List UInt8) (σ := Nat) (q := 7) (fun k => k = q) (fun k e => by have := Hqz.out; omega) 39 #[.pointer (some ⟨bp, 0, none⟩), .pointer (some ⟨bf, 0, none⟩), .pointer (some ⟨bs, 0, none⟩)] rfl (enters_of Tryz.func39 (by kernel_rfl) rfl) nenc 5
    (NStep L) (fun s => s = L.length) 0 (ColI w q L) (fun s A W1 W2 h1 hf => h1.frame Hqz.out (by rw [hz] at hf; exact hf)) ?hImono hI0
    (fun W1 => Seek W1 q f d (t0 + tt)) (fun W1 W2 h1 hf => by unfold Seek at h1 ⊢; exact hf.get h1 (by have := Hqz.out; omega)) ?hiter ?assign ?body ?done
  case hImono =>
    rintro s A A' X h1 hA hA'
    obtain ⟨v, k1, k2, k3⟩ := h1.bl
    exact ⟨h1.le, fun e => (hA' q e).elim h1.nq (fun e => by have := Hqz.out; omega), fun k hk hne => hA _ (h1.lo k hk hne), ⟨v, k1, k2, fun g e => hA _ (k3 g e)⟩, h1.fr⟩
  case hiter =>
    intro l' J' W' hJI' hJf' hJA' hY' h0' hfw'
    refine callsIn_wide.2 ((paths1_iter σ f S pp T q d hcap hd fuel (8 - 1) bp bf bs pv p far t0 l' J' W' Hpf.out Hfar.out Htr.out (fun s A W1 h1 => ⟨HP.out.frame (hJI' s A W1 h1).fr Hq.out, (hJI' s A W1 h1).nq⟩) hJf' hJA' (by rw [← HL.out]; exact hY') _ h0' (by have := Hs.out; unfold Seek at this ⊢; exact (Hfw.out.trans hfw').get this (fun e => e))).mono ?_)
    rintro e W1 ⟨h1, ⟨A1, h2⟩, h3⟩
    exact ⟨h1, _, A1, rfl, by rw [← HL.out] at h2; exact h2, by rw [← Htt.out] at h3; exact h3⟩
  case assign =>
    intro l' y W1 K hK
    have hK := hide hK
    gi_wp2
    exact hK.out
  case body =>
    clear hI0
    rintro s A x s' X ⟨r0, hr0⟩ ⟨hs, hx, rfl⟩ ⟨hle, nq, lo, ⟨v, k1, k2, k3⟩, fr⟩ hsz hA0 hA1
    have htk : (L.take (s + 1)).map nenc = (L.take s).map nenc ++ [nenc x] := by rw [List.take_succ_eq_append_getElem hs, List.map_append, hx]; rfl
    have Htk := hide htk
    have hlen := Hlen.out
    obtain ⟨va, vc, rfl⟩ := own_form k2
    have c1 : X.cell? ⟨w.heap.size, 0, none⟩ = some (.slice va s vc) := by rw [blk_cell k1]; rfl
    have z1 := blk_frozen k1
    have hqz := Hqz.out
    clear htk hx
    obtain ⟨xs, hxs⟩ : ∃ xs : ByteArray, .string xs = nenc x := ⟨_, rfl⟩
    rw [← hxs] at Htk ⊢
    clear hxs
    gi_wp2_with (gi_at_builtin; refine wpListIn_append_own_at _ rfl _ _ 28 rfl (w.heap.size + 3) 9 i0 (.string ⟨#[]⟩) 1 16 Tryz.underlying28 hinf hz0 hz1 hz2 rfl (by decide) _ _ _ rfl (k2.alloc _) ⟨X.heap.size, 0, none⟩ 1 1 [.string xs] rfl rfl ?c1 ?c2 ?c3 ?c4 ?c5 ?_)
    case c2 => first | rfl | (intro u hu; simp at hu; subst hu; rfl)
    case c3 => unfold maxLen; omega
    case c4 => omega
    case c5 => first | omega | (simp only [World.size_alloc]; omega)
    case c1 =>
      intro j u hj
      have hadd : (⟨X.heap.size, 0, none⟩ : Addr).add j = ⟨X.heap.size, j, none⟩ := by unfold Addr.add; split <;> simp_all
      rw [hadd, blk_cell (blk_new _ _)]
      simpa using hj
    intro v' w3 hown' hgrow _ hat
    obtain ⟨va', vc', rfl⟩ := own_form hown'
    have hf1 : Fr (fun q => (Value.slice va s vc).ownBlock = some q) X w3 := ((Fr.refl _ _).alloc _).trans (Fr.of_grown hgrow)
    have hvb : ∀ q, (Value.slice va s vc).ownBlock = some q → w.heap.size + 3 ≤ q := fun q e => (k2.lt _ e).1
    have hs3 := hf1.size
    have k13 := hf1.get k1 (fun e => by have := hvb _ e; omega)
    have hcell : w3.cell? ⟨w.heap.size, 0, none⟩ = some (.slice va s vc) := by rw [blk_cell k13]; rfl
    have hfz := blk_frozen k13
    have hset := frSet w3 w.heap.size 0 (.slice va' (s + 1) vc')
    have hfin := hide (show rfPost3 w1.heap.size A (ColI w q L) (fun _ _ _ => False) (s + 1) X .normal ⟨#[], []⟩ (w3.setCell ⟨w.heap.size, 0, none⟩ (.slice va' (s + 1) vc')) from by
      have hall : Fr A X (w3.setCell ⟨w.heap.size, 0, none⟩ (.slice va' (s + 1) vc')) := (hf1.mono (fun k _ e => k3 k e)).trans (hset.mono (fun k _ e => e ▸ lo _ (by omega) (by omega)))
      have hg2 : ∀ g, (Value.slice va' (s + 1) vc').ownBlock = some g → A g ∨ (X.heap.size ≤ g ∧ g < w3.heap.size) := fun g e => by
        rcases hat with hat | hat
        · rw [hat] at e; exact .inl (k3 g e)
        · rw [hat] at e
          simp only [Option.some.injEq] at e
          exact .inr ⟨by omega, (hown'.lt _ (by rw [hat, ← e])).2⟩
      have hb2 := blk_set k13 0 (.slice va' (s + 1) vc')
      refine ⟨⟨?_, ?_⟩, hall, hs, fun e => e.elim nq (fun e => by omega), fun k hk hne => .inl (lo k hk hne), ⟨_, hb2, ?_, fun g e => by simpa using hg2 g e⟩, ?_⟩
      · rw [Below.heap_setCell _ _ _ _ (by simp; omega)]; exact hf1.block _ (by omega) (fun e => by have := hvb _ e; omega)
      · rw [Below.heap_setCell _ _ _ _ (by simp; omega)]; exact hf1.block _ (by omega) (fun e => by have := hvb _ e; omega)
      · rw [Htk.out, List.map_take]
        exact own_frame hown' hset (fun g e e2 => by have := (hown'.lt _ e).1; omega)
      · exact (fr.trans' hf1 (fun i hi e => by have := hvb _ e; omega)).trans' hset (fun i hi e => by omega))
    clear hf1 hset hown' hgrow k13 c1 z1 lo nq
    gi_wp2
    exact hfin.out
  case done =>
    rintro s A X rfl hI hsk hK
    obtain ⟨v, k1, k2, k3⟩ := hI.bl
    have hc : X.cell? ⟨w.heap.size, 0, none⟩ = some v := by rw [blk_cell k1]; rfl
    have hput : Fr (fun k => k = w1.heap.size) X (X.putObj w1.heap.size (.deferred none)) := fr_putObj _ rfl
    rw [List.take_length] at k2
    have hqz := Hqz.out
    have hfin := hide (show (X.putObj w1.heap.size (.deferred none)).ownsRow (w.heap.size + 3) 9 1 v L.length (L.map nenc) ∧ Fr (fun k => k = q) w (X.putObj w1.heap.size (.deferred none)) ∧ Seek (X.putObj w1.heap.size (.deferred none)) q f d (t0 + tt) from
      ⟨own_frame k2 hput (fun g e e2 => by have := (k2.lt g e).1; omega), hI.fr.trans' hput (fun i hi e => by omega), by unfold Seek at hsk ⊢; exact hput.get hsk (by omega)⟩)
    clear hI k2 hI0 hsk hput
    gi_wp2
    refine ⟨by simp, .inl ⟨_, _, rfl, run_takeDeferred hK, ?_⟩⟩
    exact ⟨_, results_tmp rfl _ _ _, v, rfl, hfin.out⟩
theorem collect_any (σ : FSt) (f : Nat) (S : Nat → Prop) (pp : Nat → Nat) (T : Nat → Prop) (q d : Nat) (hcap : CapB σ) (hd : d ≤ 9223372036854775807) (fuel bp bf bs : Nat) (pv : Value) (p : List Ch) (far : ByteArray) (t0 : Nat) (w : World) (hpf : p.length < fuel) (hfar : far.size + 2000 * fuel ≤ 1000000) (htr : t0 + triesP σ d fuel far.data.toList p ≤ 1000)
    (hP : PtI σ f S pp T q bp bf bs pv p far w) (hs : Seek w q f d t0) (hq : ¬ S q ∧ q ≠ Tryz.laysSplit_ren.g 1 ∧ ¬ T q ∧ bp ≠ q ∧ bf ≠ q ∧ bs ≠ q) :
    Calls Tryz.prog 33 #[.func (.func 39) #[] #[.pointer (some ⟨bp, 0, none⟩), .pointer (some ⟨bf, 0, none⟩), .pointer (some ⟨bs, 0, none⟩)]] w
      (ColPost w q f d (t0 + triesP σ d fuel far.data.toList p) (pathsP σ d fuel far.data.toList p)) := by
  have ha := hide (aseq_any σ f S pp T q d hcap hd fuel bp bf bs pv p far t0 w hpf hfar htr hP hs hq)
  clear hcap hd hpf hfar htr hP hs hq
  go_enter Tryz.func33, Tryz.ntmps33
  go_wp2_with fail
  refine ha.out.mono ?_
  rintro e w2 ⟨v, rfl, h1, h2⟩
  have hfin := hide (And.intro h1 h2)
  clear ha h1 h2
  go_wp2_with fail
  go_ret
  exact ⟨v, rfl, hfin.out⟩
/-- A sorted row of one's own. -/
def RowH (w : World) (base : Nat) (v : Value) (L : List (List UInt8)) : Prop :=
  ∃ a cap, v = .slice a L.length cap ∧ L.length ≤ cap ∧ (a = none → cap = 0) ∧ (L = [] ∨ ∃ g, a = some ⟨g, 0, none⟩ ∧ base ≤ g ∧ g < w.heap.size ∧ Sort.Holds encStr w g 0 L.toArray)
theorem own_rowH {w : World} {base : Nat} {v : Value} {L : List (List UInt8)} (h : w.ownsRow base 9 1 v L.length (L.map nenc)) : RowH w base v L := by
  rcases h.2 with ⟨h1, h2⟩ | ⟨g, cap, cur, rfl, hb, hg, h2, h3, h4, h5⟩
  · exact ⟨none, 0, by rw [h1, h2], by omega, fun _ => rfl, .inl (List.eq_nil_of_length_eq_zero h2)⟩
  · refine ⟨_, _, rfl, h2, fun e => by simp at e, ?_⟩
    by_cases h0 : L.length = 0
    · exact .inl (List.eq_nil_of_length_eq_zero h0)
    · obtain ⟨g', he, h6, h7, h8⟩ := own_cells h (by omega)
      cases he
      refine .inr ⟨g, rfl, hb, h7, fun j hj => ⟨?_, blk_frozen hg _⟩⟩
      have hj' : j < L.length := by simpa using hj
      rw [Nat.zero_add, getElem!_pos _ j hj]
      exact h8 j _ (by simp [hj']; rfl)
theorem fr_sorted (w : World) (n blk off : Nat) (d : Array (List UInt8)) (os : Array Obj) : Fr (fun k => k = blk) w (Sort.grow (Sort.putRow encStr (Sort.ahead w n) blk off d) os) := by
  refine ⟨rfl, rfl, rfl, by simp, fun i hi hn => ?_⟩
  rw [Sort.heap_grow_old _ _ (by simpa using hi)]
  show (w.heap.modify blk _)[i]? = _
  rw [Array.getElem?_modify, if_neg (fun e => hn e.symm)]
def SrtPost (w0 : World) (q f d tt : Nat) (L : List (List UInt8)) (e : Ending) (w' : World) : Prop :=
  ∃ v, e = .returned v ∧ RowH w' w0.heap.size v (L.mergeSort fun x y => decide (x ≤ y)) ∧ Fr (fun k => k = q) w0 w' ∧ Seek w' q f d tt
theorem sorted_any (σ : FSt) (f : Nat) (S : Nat → Prop) (pp : Nat → Nat) (T : Nat → Prop) (q d : Nat) (hcap : CapB σ) (hd : d ≤ 9223372036854775807) (fuel bp bf bs : Nat) (pv : Value) (p : List Ch) (far : ByteArray) (t0 : Nat) (w : World) (hpf : p.length < fuel) (hfar : far.size + 2000 * fuel ≤ 1000000) (htr : t0 + triesP σ d fuel far.data.toList p ≤ 1000)
    (hP : PtI σ f S pp T q bp bf bs pv p far w) (hs : Seek w q f d t0) (hq : ¬ S q ∧ q ≠ Tryz.laysSplit_ren.g 1 ∧ ¬ T q ∧ bp ≠ q ∧ bf ≠ q ∧ bs ≠ q) :
    Calls Tryz.prog 23 #[.func (.func 39) #[] #[.pointer (some ⟨bp, 0, none⟩), .pointer (some ⟨bf, 0, none⟩), .pointer (some ⟨bs, 0, none⟩)]] w
      (SrtPost w q f d (t0 + triesP σ d fuel far.data.toList p) (pathsP σ d fuel far.data.toList p)) := by
  have ha := hide (collect_any σ f S pp T q d hcap hd fuel bp bf bs pv p far t0 w hpf hfar htr hP hs hq)
  have hlen : (pathsP σ d fuel far.data.toList p).length ≤ 1001 := by have := paths_len (σ := σ) (d := d) fuel far.data.toList p; omega
  have hqz : q < w.heap.size := by unfold Seek at hs; exact blk_lt hs
  clear hcap hd hpf hfar hP hq htr hs
  generalize t0 + triesP σ d fuel far.data.toList p = tt at *
  generalize pathsP σ d fuel far.data.toList p = L at *
  go_enter Tryz.func23, Tryz.ntmps23
  go_wp2_with fail
  refine ha.out.mono ?_
  rintro e w2 ⟨v, rfl, h1, h2, h3⟩
  obtain ⟨a, cap, rfl, h4, h5, h6⟩ := own_rowH h1
  by_cases h0 : L = []
  · subst h0
    have hn := hide (Any.slices_Sort_string_none Tryz.laysSort a cap w2)
    have hfin := hide (show RowH w2 w.heap.size (.slice a 0 cap) [] ∧ Fr (fun k => k = q) w w2 ∧ Seek w2 q f d tt from ⟨⟨a, cap, rfl, Nat.zero_le _, h5, .inl rfl⟩, h2, h3⟩)
    clear ha h1 h2 h3 h4 h5 h6 hlen hqz
    go_wp2_with fail
    refine hn.out.mono ?_
    rintro e w3 ⟨rfl, rfl⟩
    clear hn
    go_wp2_with fail
    go_ret
    exact ⟨_, rfl, by simpa using hfin.out⟩
  · obtain ⟨g, rfl, h7, h8, h9⟩ := h6.resolve_left h0
    have hn := hide (Any.slices_Sort_string Tryz.laysSort g 0 cap L w2 h9 h8 (by omega))
    have hfin := hide (fun (n : Nat) (os : Array Obj) => show RowH (Sort.grow (Sort.putRow encStr (Sort.ahead w2 n) g 0 (L.mergeSort fun x y => decide (x ≤ y)).toArray) os) w.heap.size (.slice (some ⟨g, 0, none⟩) L.length cap) (L.mergeSort fun x y => decide (x ≤ y)) ∧ Fr (fun k => k = q) w (Sort.grow (Sort.putRow encStr (Sort.ahead w2 n) g 0 (L.mergeSort fun x y => decide (x ≤ y)).toArray) os) ∧ Seek (Sort.grow (Sort.putRow encStr (Sort.ahead w2 n) g 0 (L.mergeSort fun x y => decide (x ≤ y)).toArray) os) q f d tt from by
      have hfr := fr_sorted w2 n g 0 (L.mergeSort fun x y => decide (x ≤ y)).toArray os
      refine ⟨⟨_, cap, by rw [List.length_mergeSort], by rw [List.length_mergeSort]; exact h4, fun e => by simp at e, .inr ⟨g, rfl, by omega, by have := hfr.size; omega, ?_⟩⟩, h2.trans' hfr (fun i hi e => by omega), by unfold Seek at h3 ⊢; exact hfr.get h3 (by omega)⟩
      exact Sort.holds_grow _ _ _ _ _ _ (by simpa using h8) (Sort.holds_putRow _ _ _ _ L.toArray _ (Sort.holds_ahead _ _ _ _ _ _ h9) (by simp)))
    clear ha h1 h2 h3 h4 h5 h6 h7 h8 h9 hlen hqz h0
    go_wp2_with fail
    refine hn.out.mono ?_
    rintro e w3 ⟨rfl, n, os, rfl⟩
    have hf := hide (hfin.out n os)
    clear hn hfin
    generalize Sort.grow (Sort.putRow encStr (Sort.ahead w2 n) g 0 (L.mergeSort fun x y => decide (x ≤ y)).toArray) os = w3 at *
    go_wp2_with fail
    go_ret
    exact ⟨_, rfl, hf.out⟩
theorem compact_any (w : World) (base : Nat) (v : Value) (L : List (List UInt8)) (h : RowH w base v L) (hl : L.length ≤ 9223372036854775807) :
    Calls Tryz.prog 26 #[v] w fun e w' => ∃ v', e = .returned v' ∧ ArgsV w' (fun k => base ≤ k) v' ((compactL L).map fun x => ⟨x.toArray⟩) ∧ Fr (fun k => base ≤ k) w w' := by
  obtain ⟨a, cap, rfl, h4, h5, h6⟩ := h
  by_cases h0 : L = []
  · subst h0
    refine (Any.slices_Compact_string_empty Tryz.laysCompact a cap w).mono ?_
    rintro e w' ⟨rfl, rfl⟩
    exact ⟨_, rfl, ⟨a, cap, rfl, Nat.zero_le _, h5, .inl rfl⟩, Fr.refl _ _⟩
  · obtain ⟨g, rfl, h7, h8, h9⟩ := h6.resolve_left h0
    refine (Any.slices_Compact_string Tryz.laysCompact g 0 cap L w h9 hl h4).mono ?_
    rintro e w' ⟨rfl, n, rfl⟩
    have hfr := fr_sorted w n g 0 (Lib.compact L ++ List.replicate (L.length - (Lib.compact L).length) []).toArray #[]
    rw [Sort.grow_empty] at hfr
    have hle := Lib.compact_length_le L
    have hH := Sort.holds_putRow encStr (Sort.ahead w n) g 0 L.toArray (Lib.compact L ++ List.replicate (L.length - (Lib.compact L).length) []).toArray (Sort.holds_ahead _ _ _ _ _ _ h9) (by simp; omega)
    refine ⟨_, rfl, ⟨_, cap, by rw [List.length_map, compact_eq], by rw [List.length_map, ← compact_eq]; omega, fun e => by simp at e, .inr ⟨g, 0, rfl, h7, by have := hfr.size; omega, fun k hk => ?_⟩⟩, hfr.mono fun k _ e => by omega⟩
    have hk2 : k < (Lib.compact L).length := by rw [compact_eq]; simpa using hk
    have := (hH k (by simp; omega)).1
    rw [this, getElem!_pos _ k (by simp; omega)]
    simp only [List.getElem_toArray, List.getElem_append_left hk2, List.getElem_map]
    simp only [compact_eq]
end Go.Proofs.YtlhmmiolnbgloaaGreatDoor
