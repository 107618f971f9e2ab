/- glob.Paths, where few paths are tried. Conditions: the contract's own premises. -/
import Derived.Test.YtlhmmiolnbgloaaGreatDoorGlobO
import Derived.Test.YtlhmmiolnbgloaaGreatDoorFilesF
import Derived.Test.YtlhmmiolnbgloaaGreatDoorFilesAsk
import Derived.Test.YtlhmmiolnbgloaaGreatDoorFilesTreeT
import Derived.Laws.OwnMore
import Derived.Handy
import Derived.Deep.LoopGhost
namespace Go.Proofs.YtlhmmiolnbgloaaGreatDoor
open Go.RowKit Go.Shelf

attribute [local go_sem] Oper.semAt_some

def PathsPost (w : World) (L : List (List UInt8)) (e : Ending) (w' : World) : Prop := ∃ v, e = .returned v ∧ ArgsV w' (fun k => w.heap.size ≤ k) v (L.map fun x => ⟨x.toArray⟩) ∧ Fr (fun _ => False) w w'
theorem ArgsV.take {w : World} {S : Nat → Prop} {a : Option Addr} {n c m : Nat} {l : List ByteArray} (h : ArgsV w S (.slice a n c) l) (hm : m ≤ n) : ArgsV w S (.slice a m c) (l.take m) := by
  obtain ⟨a', c', h1, h2, h3, h4⟩ := h
  cases h1
  refine ⟨a, c, by rw [List.length_take]; congr 1; omega, by rw [List.length_take]; omega, h3, ?_⟩
  rcases h4 with h4 | ⟨g, o, h5, h6, h7, h8⟩
  · exact .inl (by rw [h4]; simp)
  · exact .inr ⟨g, o, h5, h6, h7, fun k hk => by rw [List.getElem_take]; exact h8 k (by rw [List.length_take] at hk; omega)⟩
set_option maxRecDepth 100000 in
set_option maxHeartbeats 1000000 in
theorem gpaths_any (w : World) (f : Nat) (σ : FSt) (S : Nat → Prop) (pp : Nat → Nat) (T : Nat → Prop) (d : Nat) (pv : Value) (p : List Ch) (hA : FilesAt w f σ S pp) (hml : Ml w) (hcap : CapB σ) (hd : d ≤ 9223372036854775807) (hch : ChV w T pv p) (hpl : p.length ≤ 400) (htr : triesP σ d (p.length + 1) [] p ≤ 1000) :
    Calls Tryz.prog 10 #[.pointer (some ⟨f, 0, none⟩), .int .i64 d, pv] w (PathsPost w (globL σ d p)) := by
  have hst := Stat_any w f σ S pp hA hcap (d : Int) ⟨by omega, by omega⟩
  have hw : ∀ w2, Fr (fun _ => False) w w2 → ChV w2 T pv p := fun w2 hf => hch.still hf
  obtain ⟨pa, pc, rfl⟩ := hch.form
  obtain ⟨G, hG⟩ : ∃ G, G = globL σ d p := ⟨_, rfl⟩
  rw [← hG]
  cases hn : σ.ndI (d : Int) with
  | none =>
    have e1 : statE σ (d : Int) = 9 := by unfold statE; rw [hn]
    have e2 : statT σ (d : Int) = noSt := by unfold statT; rw [hn]
    have e3 : G = [] := by rw [hG]; unfold globL; rw [hn]
    rw [e1, e2] at hst
    subst e3
    have hfin := hide fun w2 (hf : Fr (fun _ => False) w w2) => (show PathsPost w [] (.returned (.slice none 0 0)) w2 from ⟨_, rfl, args_nil _ _, hf⟩)
    have hst := hide hst
    clear hA hml hcap hch htr hw hG e1 e2 hn
    simp only [stV, noSt] at hst
    go_enter Tryz.func10, Tryz.ntmps10
    go_wp2_with fail
    refine hst.out.mono ?_
    rintro e w2 ⟨rfl, hf2⟩
    have hf := hide (hfin.out _ (hf2.alloc (.cells #[.int .i64 0, .int .i64 0, .int .i64 0, .int .i64 0, .int .i64 0] 42 (0, 0))))
    clear hst hfin hf2
    go_wp2_with fail
    go_ret
    exact hf.out
  | some n =>
    have e1 : statE σ (d : Int) = 0 := by unfold statE; rw [hn]
    obtain ⟨s0, s1, s2, s3, s4, e2⟩ : ∃ s0 s1 s2 s3 s4, statT σ (d : Int) = ⟨s0, s1, s2, s3, s4⟩ := ⟨_, _, _, _, _, rfl⟩
    have e3 : s1 = if n.d then 2 else 1 := by
      unfold statT at e2
      rw [hn] at e2
      injection e2 with _ h
      exact h.symm
    rw [e1, e2] at hst
    have hst := hide hst
    simp only [stV] at hst
    by_cases hnd : n.d = true
    rotate_left
    · have hnd : n.d = false := by simpa using hnd
      have e4 : G = [] := by rw [hG]; unfold globL; rw [hn]; simp [hnd]
      rw [hnd] at e3
      rw [if_neg (by decide)] at e3
      subst e4 e3
      have hfin := hide fun w2 (hf : Fr (fun _ => False) w w2) => (show PathsPost w [] (.returned (.slice none 0 0)) w2 from ⟨_, rfl, args_nil _ _, hf⟩)
      clear hA hml hcap hch htr hw hG e1 e2 hn
      go_enter Tryz.func10, Tryz.ntmps10
      go_wp2_with fail
      refine hst.out.mono ?_
      rintro e w2 ⟨rfl, hf2⟩
      have hf := hide (hfin.out _ (hf2.alloc (.cells #[.int .i64 s0, .int .i64 1, .int .i64 s2, .int .i64 s3, .int .i64 s4] 42 (0, 0))))
      clear hst hfin hf2
      go_wp2_with fail
      go_ret
      exact hf.out
    · rw [hnd] at e3
      rw [if_pos rfl] at e3
      subst e3
      cases hwl : wildL p with
      | false =>
        have e4 : G = [] := by rw [hG]; unfold globL; rw [hn]; simp [hwl]
        subst e4
        have hfin := hide fun w2 (hf : Fr (fun _ => False) w w2) => (show PathsPost w [] (.returned (.slice none 0 0)) w2 from ⟨_, rfl, args_nil _ _, hf⟩)
        have hwd := hide fun w2 (hf : Fr (fun _ => False) w w2) => hwl ▸ wild_any w2 T _ p (hw w2 hf)
        clear hA hml hcap hch htr hw hG e1 e2 hn
        go_enter Tryz.func10, Tryz.ntmps10
        go_wp2_with fail
        refine hst.out.mono ?_
        rintro e w2 ⟨rfl, hf2⟩
        have hf3 : Fr (fun _ => False) w (w2.alloc (.cells #[.int .i64 s0, .int .i64 2, .int .i64 s2, .int .i64 s3, .int .i64 s4] 42 (0, 0))) := hf2.alloc _
        have Hf3 := hide hf3
        clear hst hf2 hf3
        go_wp2_with fail
        refine (hwd.out _ Hf3.out).mono ?_
        rintro e w4 ⟨rfl, hf4⟩
        have hf := hide (hfin.out _ (Hf3.out.trans hf4))
        clear hfin hf4 hwd Hf3
        go_wp2_with fail
        go_ret
        exact hf.out
      | true =>
        obtain ⟨L, hL⟩ : ∃ L, L = pathsP σ d (p.length + 1) [] p := ⟨_, rfl⟩
        obtain ⟨tt, htt⟩ : ∃ tt, tt = triesP σ d (p.length + 1) [] p := ⟨_, rfl⟩
        have e4 : G = (compactL (L.mergeSort fun x y => decide (x ≤ y))).take 200 := by rw [hG]; unfold globL; rw [hn]; simp [hwl, hnd, hL]
        have hll : L.length ≤ 1001 := by rw [hL]; have := paths_len (σ := σ) (d := d) (p.length + 1) [] p; omega
        have htt2 : tt ≤ 1000 := by rw [htt]; exact htr
        have hwd := hide fun w2 (hf : Fr (fun _ => False) w w2) => hwl ▸ wild_any w2 T _ p (hw w2 hf)
        have HA := hide hA
        have Hml := hide hml
        have Hch := hide hch
        have HL := hide hL
        have Htt := hide htt
        have E4 := hide e4
        have Hll := hide hll
        have Htt2 := hide htt2
        have Hpl := hide hpl
        have Htr := hide htr
        clear hA hml hch htr hw hG e1 e2 hn hL htt e4 hll htt2 hpl
        go_enter Tryz.func10, Tryz.ntmps10
        go_wp2_with fail
        refine hst.out.mono ?_
        rintro e w2 ⟨rfl, hf2⟩
        have hf3 : Fr (fun _ => False) w (w2.alloc (.cells #[.int .i64 s0, .int .i64 2, .int .i64 s2, .int .i64 s3, .int .i64 s4] 42 (0, 0))) := hf2.alloc _
        have Hf3 := hide hf3
        clear hst hf2 hf3
        go_wp2_with fail
        refine (hwd.out _ Hf3.out).mono ?_
        rintro e w4 ⟨rfl, hf4⟩
        have Hf4 := hide (Hf3.out.trans hf4)
        clear hf4 hwd Hf3
        go_upto_region 5 with (fail)
        have sk5 : Seek (w4.alloc (.cells #[.pointer (some ⟨f, 0, none⟩), .int .i64 d, .int .i64 (0 : Nat)] 68 (0, 0))) w4.heap.size f d 0 := blk_new _ _
        have hA5 := (HA.out.frame Hf4.out (fun _ _ _ e => e)).aside (.cells #[.pointer (some ⟨f, 0, none⟩), .int .i64 d, .int .i64 (0 : Nat)] 68 (0, 0))
        have hf5 : Fr (fun _ => False) w4 (w4.alloc (.cells #[.pointer (some ⟨f, 0, none⟩), .int .i64 d, .int .i64 (0 : Nat)] 68 (0, 0))) := (Fr.refl _ _).alloc _
        have hz5 : (w4.alloc (.cells #[.pointer (some ⟨f, 0, none⟩), .int .i64 d, .int .i64 (0 : Nat)] 68 (0, 0))).heap.size = w4.heap.size + 1 := by simp
        rw [show ((0 : Nat) : Int) = 0 from rfl] at *
        generalize (w4.alloc (.cells #[.pointer (some ⟨f, 0, none⟩), .int .i64 d, .int .i64 0] 68 (0, 0))) = w5 at *
        have ml5 := Hml.out.below (Hf4.out.trans hf5)
        have ch5 : ChV w5 (fun k => T k ∧ k < w.heap.size) (.slice pa p.length pc) p := (Hch.out.mono (fun k hk h => ⟨h, hk⟩)).still (Hf4.out.trans hf5)
        have hsp := hide (spaths_any w5 (some ⟨w4.heap.size, 0, none⟩) ⟨#[]⟩ pa p.length pc)
        have hmlz : Tryz.laysSplit_ren.g 1 < w.heap.size := by obtain ⟨m, hm⟩ := Hml.out; exact World.block_lt_of_cell? _ _ hm
        have hs45 := Hf4.out.size
        have Sk5 := hide sk5
        have HA5 := hide hA5
        have Hf5 := hide (Hf4.out.trans hf5)
        have Hz5 := hide hz5
        have Ml5 := hide ml5
        have Ch5 := hide ch5
        clear sk5 hA5 hf5 hz5 ml5 ch5
        go_wp2_with fail
        refine hsp.out.mono ?_
        rintro e w6 ⟨rfl, hw6⟩
        have e1 : w6.heap[w5.heap.size]? = some (.cells #[.pointer (some ⟨w4.heap.size, 0, none⟩)] 66 (0, 0)) := by rw [hw6]; exact blk_alloc (blk_alloc (blk_new w5 _) _) _
        have e2 : w6.heap[w5.heap.size + 1]? = some (.cells #[.string ⟨#[]⟩] 9 (0, 0)) := by rw [hw6]; exact blk_alloc (blk_new' _ _ _ (by simp)) _
        have e3 : w6.heap[w5.heap.size + 2]? = some (.cells #[.slice pa p.length pc] 32 (0, 0)) := by rw [hw6]; exact blk_new' _ _ _ (by simp)
        have hz6 : w6.heap.size = w5.heap.size + 3 := by rw [hw6]; simp
        have hf6 : Fr (fun _ => False) w5 w6 := by rw [hw6]; exact (((Fr.refl _ _).alloc _).alloc _).alloc _
        have hP : PtI σ f (fun k => S k ∧ k ≠ w4.heap.size) pp (fun k => T k ∧ k < w.heap.size) w4.heap.size (w5.heap.size + 2) (w5.heap.size + 1) w5.heap.size (.slice pa p.length pc) p ⟨#[]⟩ w6 :=
          ⟨HA5.out.frame hf6 (fun _ _ _ e => e), Ml5.out.below hf6, Ch5.out.still hf6, by rw [blk_cell e3]; rfl, by rw [blk_cell e2]; rfl, by rw [blk_cell e1]; rfl⟩
        have sk6 : Seek w6 w4.heap.size f d 0 := by have := Sk5.out; unfold Seek at this ⊢; exact hf6.get this (fun e => e)
        have hz5 := Hz5.out
        have hso := sorted_any σ f _ pp _ w4.heap.size d hcap hd (p.length + 1) (w5.heap.size + 2) (w5.heap.size + 1) w5.heap.size (.slice pa p.length pc) p ⟨#[]⟩ 0 w6 (Nat.lt_succ_self _) (by show 0 + _ ≤ _; have := Hpl.out; omega) (by show 0 + triesP σ d (p.length + 1) [] p ≤ 1000; have := Htr.out; omega) hP sk6 ⟨fun e => e.2 rfl, by omega, fun e => by omega, by omega, by omega, by omega⟩
        rw [show (⟨#[]⟩ : ByteArray).data.toList = [] from rfl, ← HL.out, ← Htt.out] at hso
        have Hso := hide hso
        have Hf6 := hide (Hf5.out.trans hf6)
        have Hz6 := hide hz6
        have Hs45 := hide hs45
        clear e1 e2 e3 hz6 hf6 hP sk6 hso hw6 hsp hmlz hz5 hs45
        go_wp2_with fail
        refine Hso.out.mono ?_
        rintro e w7 ⟨v, rfl, h1, h2, h3⟩
        have hs6 := Hf6.out.size
        have hs45 := Hs45.out
        have hz5 := Hz5.out
        have hco := hide (compact_any w7 w6.heap.size v _ h1 (by rw [List.length_mergeSort]; have := Hll.out; omega))
        have H2 := hide h2
        have H3 := hide h3
        have Hs6 := hide hs6
        have Hf7 := hide (show Fr (fun _ => False) w w7 from Hf6.out.trans' h2 (fun i hi e => by omega))
        clear h1 h2 h3 Hso hs6 hs45 hz5
        go_wp2_with fail
        refine hco.out.mono ?_
        rintro e w8 ⟨v2, rfl, h1, h2⟩
        have hs6 := Hs6.out
        have hs45 := Hs45.out
        have hz5 := Hz5.out
        have sk8 : Seek w8 w4.heap.size f d tt := by
          have := H3.out
          unfold Seek at this ⊢
          rw [Nat.zero_add] at this
          exact h2.get this (by have := Hz6.out; omega)
        have c2 : w8.cell? ⟨w4.heap.size, 2, none⟩ = some (.int .i64 tt) := by unfold Seek at sk8; rw [blk_cell sk8]; rfl
        have hgt : decide ((1000 : Int) < (tt : Int)) = false := decide_eq_false (by have := Htt2.out; omega)
        obtain ⟨a2, cc2, rfl⟩ := h1.form
        have hcl := compact_len (L.mergeSort fun x y => decide (x ≤ y))
        rw [List.length_mergeSort] at hcl
        rw [List.length_map] at h1 ⊢
        obtain ⟨-, hcc, -⟩ := h1.at
        obtain ⟨CL, hCL⟩ : ∃ CL, CL = compactL (L.mergeSort fun x y => decide (x ≤ y)) := ⟨_, rfl⟩
        rw [← hCL] at h1 hcl hcc ⊢
        have hfin := hide fun m (hm : m = min CL.length 200) => (show PathsPost w G (.returned (.slice a2 m cc2)) w8 from ⟨_, rfl, by
          have h9 := h1.take (m := m) (by omega)
          rw [← List.map_take] at h9
          rw [E4.out, ← hCL]
          have h10 : CL.take m = CL.take 200 := by rw [hm, List.take_eq_take_iff]; omega
          rw [h10] at h9
          exact h9.mono (fun k _ h => by have := Hz6.out; omega), Hf7.out.trans' h2 (fun i hi e => by omega)⟩)
        have hcl2 := Hll.out
        clear h1 h2 sk8 hco H2 H3 hCL hs6 hs45 hz5
        go_wp2_with fail
        go_ret
        exact hfin.out _ (by omega)
end Go.Proofs.YtlhmmiolnbgloaaGreatDoor

/- The document's tree of files (shyardref08): what lies where; is, dir, May, slash. Conditions: each contract's own premises. -/
namespace Go.Proofs.YtlhmmiolnbgloaaGreatDoor
open Go.RowKit

/-- A row of numbers that is only read. -/
def IntsV (w : World) (S : Nat → Prop) (v : Value) (l : List Nat) : Prop :=
  ∃ a cap, v = .slice a l.length cap ∧ l.length ≤ cap ∧ (a = none → cap = 0) ∧ (l = [] ∨ ∃ g o, a = some ⟨g, o, none⟩ ∧ S g ∧ g < w.heap.size ∧ ∀ k (hk : k < l.length), w.cell? ⟨g, o + k, none⟩ = some (.int .i64 (l[k] : Nat)))
theorem IntsV.frame {w w' : World} {S S' : Nat → Prop} {v : Value} {l : List Nat} (h : IntsV w S v l) (hf : Fr S' w w') (hd : ∀ k, k < w.heap.size → S k → ¬ S' k) : IntsV w' S v l := by
  obtain ⟨a, cap, h1, h2, h3, h4⟩ := h
  refine ⟨a, cap, h1, h2, h3, h4.imp id ?_⟩
  rintro ⟨g, o, h5, h6, h7, h8⟩
  exact ⟨g, o, h5, h6, Nat.lt_of_lt_of_le h7 hf.size, fun k hk => (World.cell?_of_block (w := w) (a := ⟨g, o + k, none⟩) (hf.block g h7 (hd g h7 h6))).trans (h8 k hk)⟩
theorem IntsV.mono {w : World} {S S' : Nat → Prop} {v : Value} {l : List Nat} (h : IntsV w S v l) (hS : ∀ k, k < w.heap.size → S k → S' k) : IntsV w S' v l := by
  obtain ⟨a, cap, h1, h2, h3, h4⟩ := h
  refine ⟨a, cap, h1, h2, h3, h4.imp id ?_⟩
  rintro ⟨g, o, h5, h6, h7, h8⟩
  exact ⟨g, o, h5, hS g h7 h6, h7, h8⟩
theorem IntsV.form {w : World} {S : Nat → Prop} {v : Value} {l : List Nat} (h : IntsV w S v l) : ∃ a cap, v = .slice a l.length cap := by
  obtain ⟨a, cap, h1, _⟩ := h
  exact ⟨a, cap, h1⟩
theorem IntsV.at {w : World} {S : Nat → Prop} {a : Option Addr} {n cap : Nat} {l : List Nat} (h : IntsV w S (.slice a n cap) l) : n = l.length ∧ n ≤ cap ∧ (n = 0 ∨ ∃ g o, a = some ⟨g, o, none⟩ ∧ ∀ k (hk : k < l.length), w.cell? ⟨g, o + k, none⟩ = some (.int .i64 (l[k] : Nat))) := by
  obtain ⟨a', cap', h1, h2, h3, h4⟩ := h
  cases h1
  refine ⟨rfl, h2, ?_⟩
  rcases h4 with h4 | ⟨g, o, h5, _, _, h8⟩
  · exact .inl (by rw [h4]; rfl)
  · exact .inr ⟨g, o, h5, h8⟩
/-- An inode's eight cells. -/
def nodeR (σ : FSt) (nv iv : Nat → Value) (i : Nat) : List Value :=
  match σ.nd i with
  | none => [.int .i64 0, .int .i64 0, .int .i64 0, .int .i64 0, .int .i64 0, .string ⟨#[]⟩, .slice none 0 0, .slice none 0 0]
  | some n => [.int .i64 (kindN n), .int .i64 n.mode, .int .i64 n.links, .int .i64 n.holds, .int .i64 n.par, .string (baL n.data), nv i, iv i]
theorem nodeR_len (σ : FSt) (nv iv : Nat → Value) (i : Nat) : (nodeR σ nv iv i).length = 8 := by unfold nodeR; split <;> rfl
def rowsOf {α : Type} (c : α → List Value) (l : List α) : List Value := (l.map c).flatten
theorem rowsOf_len {α : Type} {c : α → List Value} {s : Nat} (hc : ∀ x, (c x).length = s) : ∀ l : List α, (rowsOf c l).length = l.length * s
  | [] => by simp [rowsOf]
  | x :: l => by
    have := rowsOf_len hc l
    unfold rowsOf at this ⊢
    rw [List.map_cons, List.flatten_cons, List.length_append, this, hc, List.length_cons, Nat.succ_mul]
    omega
theorem rowsOf_get {α : Type} {c : α → List Value} {s : Nat} (hc : ∀ x, (c x).length = s) : ∀ (l : List α) (k : Nat) (hk : k < l.length) (j : Nat), j < s → (rowsOf c l)[k * s + j]? = (c l[k])[j]?
  | x :: l, 0, _, j, hj => by
    unfold rowsOf
    rw [List.map_cons, List.flatten_cons, Nat.zero_mul, Nat.zero_add, List.getElem?_append_left (by rw [hc]; exact hj)]
    rfl
  | x :: l, k + 1, hk, j, hj => by
    have ih := rowsOf_get hc l k (by simpa using hk) j hj
    unfold rowsOf at ih ⊢
    rw [List.map_cons, List.flatten_cons, List.getElem?_append_right (by rw [hc, Nat.succ_mul]; omega), hc, show (k + 1) * s + j - s = k * s + j by rw [Nat.succ_mul]; omega]
    exact ih
def nodesR (σ : FSt) (nv iv : Nat → Value) : List Value := rowsOf (nodeR σ nv iv) (List.range (σ.length + 1))
theorem nodesR_len (σ : FSt) (nv iv : Nat → Value) : (nodesR σ nv iv).length = (σ.length + 1) * 8 := by unfold nodesR; rw [rowsOf_len (nodeR_len σ nv iv), List.length_range]
theorem nodesR_get (σ : FSt) (nv iv : Nat → Value) {i j : Nat} (hi : i ≤ σ.length) (hj : j < 8) : (nodesR σ nv iv)[i * 8 + j]? = (nodeR σ nv iv i)[j]? := by
  unfold nodesR
  rw [rowsOf_get (nodeR_len σ nv iv) _ i (by rw [List.length_range]; omega) j hj]
  simp
structure RfF (w : World) (g : Nat) (σ : FSt) (S : Nat → Prop) (rv : Value) (nv iv : Nat → Value) : Prop where
  hb : w.heap[g]? = some (.cells #[rv] 85 (0, 0))
  hr : w.ownsRow 0 82 8 rv (σ.length + 1) (nodesR σ nv iv)
  nm : ∀ i n, σ.nd i = some n → ArgsV w (fun k => S k ∧ k ≠ g ∧ rv.ownBlock ≠ some k) (nv i) (namesB n.ents)
  im : ∀ i n, σ.nd i = some n → IntsV w (fun k => S k ∧ k ≠ g ∧ rv.ownBlock ≠ some k) (iv i) (n.ents.map (·.2))
  own : S g
  ownr : ∀ q, rv.ownBlock = some q → S q ∧ q ≠ g
  up : ∀ k, w.heap.size ≤ k → S k
def RfAt (w : World) (g : Nat) (σ : FSt) (S : Nat → Prop) : Prop := ∃ rv nv iv, RfF w g σ S rv nv iv
theorem RfF.frame {w w' : World} {g : Nat} {σ : FSt} {S T : Nat → Prop} {rv : Value} {nv iv : Nat → Value} (h : RfF w g σ S rv nv iv) (hf : Fr T w w') (hd : ∀ k, k < w.heap.size → S k → ¬ T k) : RfF w' g σ S rv nv iv where
  hb := hf.get h.hb (hd _ (blk_lt h.hb) h.own)
  hr := own_frame h.hr hf (fun q e => hd _ (h.hr.lt q e).2 (h.ownr q e).1)
  nm i n hn := (h.nm i n hn).frame hf (fun k hk h2 => hd k hk h2.1)
  im i n hn := (h.im i n hn).frame hf (fun k hk h2 => hd k hk h2.1)
  own := h.own
  ownr := h.ownr
  up k hk := h.up k (Nat.le_trans hf.size hk)
theorem RfAt.frame {w w' : World} {g : Nat} {σ : FSt} {S T : Nat → Prop} (h : RfAt w g σ S) (hf : Fr T w w') (hd : ∀ k, k < w.heap.size → S k → ¬ T k) : RfAt w' g σ S := by
  obtain ⟨_, _, _, h⟩ := h
  exact ⟨_, _, _, h.frame hf hd⟩
theorem RfAt.mono {w : World} {g : Nat} {σ : FSt} {S S' : Nat → Prop} (h : RfAt w g σ S) (hS : ∀ k, S k → S' k) : RfAt w g σ S' := by
  obtain ⟨_, _, _, h⟩ := h
  exact ⟨_, _, _, ⟨h.hb, h.hr, fun i n hn => (h.nm i n hn).mono fun k _ h2 => ⟨hS _ h2.1, h2.2⟩, fun i n hn => (h.im i n hn).mono fun k _ h2 => ⟨hS _ h2.1, h2.2⟩, hS _ h.own, fun q e => ⟨hS _ (h.ownr q e).1, (h.ownr q e).2⟩, fun k hk => hS _ (h.up k hk)⟩⟩
/-- The row of inodes, cell by cell. -/
theorem RfF.row {w : World} {g : Nat} {σ : FSt} {S : Nat → Prop} {rv : Value} {nv iv : Nat → Value} (h : RfF w g σ S rv nv iv) : ∃ nb cap, rv = .slice (some ⟨nb, 0, none⟩) (σ.length + 1) cap ∧ σ.length + 1 ≤ cap ∧ nb ≠ g ∧ nb < w.heap.size ∧
    (∃ cur, w.heap[nb]? = some (.cells cur 82 (0, 0))) ∧ ∀ i, i ≤ σ.length → ∀ j, j < 8 → w.cell? ⟨nb, i * 8 + j, none⟩ = (nodeR σ nv iv i)[j]? := by
  have hl := h.hr
  rcases hl.2 with ⟨_, h2⟩ | ⟨nb, cap, cur, rfl, hb, hg, hn, hm, hs, ht⟩
  · omega
  · exact ⟨nb, cap, rfl, hn, (h.ownr nb rfl).2, blk_lt hg, ⟨cur, hg⟩, fun i hi j hj => by rw [hl.cellAt (i * 8 + j) (by omega), nodesR_get σ nv iv hi hj]⟩
theorem nd_big {σ : FSt} {i : Nat} (h : σ.length < i) : σ.nd i = none := by
  cases hn : σ.nd i with
  | none => rfl
  | some n => have := FSt.nd_lt (show (σ.nd i).isSome = true by rw [hn]; rfl); omega
def isB (σ : FSt) (i : Int) : Bool := (σ.ndI i).isSome
set_option maxRecDepth 100000 in
theorem ris_any (w : World) (g : Nat) (σ : FSt) (S : Nat → Prop) (h : RfAt w g σ S) (_hL : σ.length ≤ 1000000) (i : Int) (hi : -9223372036854775808 ≤ i ∧ i ≤ 9223372036854775807) :
    Calls Tryz.prog 76 #[.pointer (some ⟨g, 0, none⟩), .int .i64 i] w fun e w' => e = .returned (.bool (isB σ i)) ∧ w' = w := by
  obtain ⟨rv, nv, iv, hF⟩ := h
  obtain ⟨nb, cap, rfl, hcap, hne, hlt, -, hc⟩ := hF.row
  have c0 : w.cell? ⟨g, 0, none⟩ = some (.slice (some ⟨nb, 0, none⟩) (σ.length + 1) cap) := by rw [blk_cell hF.hb]; rfl
  by_cases h0 : 0 < i
  · obtain ⟨k, rfl⟩ : ∃ k : Nat, i = k := ⟨i.toNat, by omega⟩
    by_cases h1 : k < σ.length + 1
    · have hk := hc k (by omega) 0 (by omega)
      rw [Nat.add_zero] at hk
      have hI : σ.ndI (k : Int) = σ.nd k := by unfold FSt.ndI; rw [if_pos (by omega)]; rfl
      have hkI : (k : Int) < (((σ.length + 1 : Nat)) : Int) := by omega
      have hk0 : (0 : Int) ≤ (k : Int) := by omega
      cases hn : σ.nd k with
      | none =>
        have hk' : w.cell? ⟨nb, k * 8, none⟩ = some (.int .i64 0) := by rw [hk]; unfold nodeR; rw [hn]; rfl
        have hr : isB σ k = false := by unfold isB; rw [hI, hn]; rfl
        rw [hr]
        clear hk hn hr hI hc
        go_enter Tryz.func76, Tryz.ntmps76
        go_wp2
        go_ret
        exact ⟨rfl, rfl⟩
      | some n =>
        have hk' : w.cell? ⟨nb, k * 8, none⟩ = some (.int .i64 (kindN n)) := by rw [hk]; unfold nodeR; rw [hn]; rfl
        have hr : isB σ k = true := by unfold isB; rw [hI, hn]; rfl
        have hkd : 0 < kindN n := by unfold kindN; split <;> decide
        rw [hr]
        generalize kindN n = kd at *
        clear hk hn hr hI hc
        go_enter Tryz.func76, Tryz.ntmps76
        go_wp2
        go_ret
        exact ⟨rfl, rfl⟩
    · have hr : isB σ k = false := by unfold isB FSt.ndI; rw [if_pos (by omega), Int.toNat_natCast, nd_big (by omega)]; rfl
      have hkI : ¬ (k : Int) < (((σ.length + 1 : Nat)) : Int) := by omega
      rw [hr]
      clear hr hc
      go_enter Tryz.func76, Tryz.ntmps76
      go_wp2
      go_ret
      exact ⟨rfl, rfl⟩
  · have hr : isB σ i = false := by unfold isB FSt.ndI; rw [if_neg (by omega)]; rfl
    rw [hr]
    clear hr hc
    go_enter Tryz.func76, Tryz.ntmps76
    go_wp2
    go_ret
    exact ⟨rfl, rfl⟩
end Go.Proofs.YtlhmmiolnbgloaaGreatDoor

/- shyardref08: FS.dir, May, slash, find. Conditions: each contract's own premises. -/
namespace Go.Proofs.YtlhmmiolnbgloaaGreatDoor
open Go.RowKit

def dirI (σ : FSt) (i : Int) : Bool := match σ.ndI i with | none => false | some n => n.d
theorem ndI_cast (σ : FSt) (k : Nat) : σ.ndI (k : Int) = σ.nd k := by
  unfold FSt.ndI
  by_cases h : 1 ≤ (k : Int)
  · rw [if_pos h]; rfl
  · rw [if_neg h, show k = 0 by omega]; rfl
/-- An inode's cells, and where they are. -/
theorem RfF.cells {w : World} {g : Nat} {σ : FSt} {S : Nat → Prop} {rv : Value} {nv iv : Nat → Value} (_h : RfF w g σ S rv nv iv) {k : Nat} {n : Nd} (hn : σ.nd k = some n) : k ≤ σ.length ∧ 0 < k := by
  have := FSt.nd_lt (show (σ.nd k).isSome = true by rw [hn]; rfl)
  omega
set_option maxRecDepth 100000 in
theorem rdir_any (w : World) (g : Nat) (σ : FSt) (S : Nat → Prop) (h : RfAt w g σ S) (hL : σ.length ≤ 1000000) (i : Int) (hi : -9223372036854775808 ≤ i ∧ i ≤ 9223372036854775807) :
    Calls Tryz.prog 96 #[.pointer (some ⟨g, 0, none⟩), .int .i64 i] w fun e w' => e = .returned (.bool (dirI σ i)) ∧ w' = w := by
  have his := hide (ris_any w g σ S h hL i hi)
  obtain ⟨rv, nv, iv, hF⟩ := h
  obtain ⟨nb, cap, rfl, hcap, hne, hlt, -, hc⟩ := hF.row
  have c0 : w.cell? ⟨g, 0, none⟩ = some (.slice (some ⟨nb, 0, none⟩) (σ.length + 1) cap) := by rw [blk_cell hF.hb]; rfl
  cases hn : σ.ndI i with
  | none =>
    have hr : dirI σ i = false := by unfold dirI; rw [hn]
    rw [show isB σ i = false by unfold isB; rw [hn]; rfl] at his
    rw [hr]
    clear hn hr hc
    go_enter Tryz.func96, Tryz.ntmps96
    go_wp2_with fail
    refine his.out.mono ?_
    rintro e w1 ⟨rfl, rfl⟩
    go_wp2_with fail
    go_ret
    exact ⟨rfl, rfl⟩
  | some n =>
    obtain ⟨k, rfl, hk⟩ := ndI_some hn
    obtain ⟨hkl, hk1⟩ := hF.cells hk
    have hk' : w.cell? ⟨nb, k * 8, none⟩ = some (.int .i64 (kindN n)) := by have := hc k hkl 0 (by omega); rw [Nat.add_zero] at this; rw [this]; unfold nodeR; rw [hk]; rfl
    rw [show isB σ k = true by unfold isB; rw [hn]; rfl] at his
    have hr : dirI σ k = n.d := by unfold dirI; rw [hn]
    have hkI : (k : Int) < (((σ.length + 1 : Nat)) : Int) := by omega
    have hk0 : (0 : Int) ≤ (k : Int) := by omega
    rw [hr]
    unfold kindN at hk'
    clear hn hr hc hk
    cases hd : n.d with
    | false =>
      rw [hd] at hk'
      simp only [Bool.false_eq_true, if_false] at hk'
      go_enter Tryz.func96, Tryz.ntmps96
      go_wp2_with fail
      refine his.out.mono ?_
      rintro e w1 ⟨rfl, rfl⟩
      clear his
      go_wp2_with fail
      go_ret
      exact ⟨rfl, rfl⟩
    | true =>
      rw [hd] at hk'
      simp only [if_true] at hk'
      go_enter Tryz.func96, Tryz.ntmps96
      go_wp2_with fail
      refine his.out.mono ?_
      rintro e w1 ⟨rfl, rfl⟩
      clear his
      go_wp2_with fail
      go_ret
      exact ⟨rfl, rfl⟩
/-- No mode is great. -/
def AllM (σ : FSt) : Prop := ∀ i n, σ.nd i = some n → n.mode < 512
theorem rmay_fact : ∀ (m : Fin 512) (k : Fin 8), (bits .and .i64 (((m.val : Nat) : Int) / 64 % 8) (k.val : Int) == (k.val : Int)) = mayN m.val k.val := by decide +kernel
set_option maxRecDepth 100000 in
theorem rmay_any (w : World) (g : Nat) (σ : FSt) (S : Nat → Prop) (h : RfAt w g σ S) (hL : σ.length ≤ 1000000) (hM : AllM σ) (i k : Int) (hi : -9223372036854775808 ≤ i ∧ i ≤ 9223372036854775807) (hk : -9223372036854775808 ≤ k ∧ k ≤ 9223372036854775807) :
    Calls Tryz.prog 53 #[.pointer (some ⟨g, 0, none⟩), .int .i64 i, .int .i64 k] w fun e w' => e = .returned (.bool (mayR σ i k)) ∧ w' = w := by
  have his := hide (ris_any w g σ S h hL i hi)
  obtain ⟨rv, nv, iv, hF⟩ := h
  obtain ⟨nb, cap, rfl, hcap, hne, hlt, -, hc⟩ := hF.row
  have c0 : w.cell? ⟨g, 0, none⟩ = some (.slice (some ⟨nb, 0, none⟩) (σ.length + 1) cap) := by rw [blk_cell hF.hb]; rfl
  cases hn : σ.ndI i with
  | none =>
    have hr : mayR σ i k = false := by unfold mayR; rw [hn]
    rw [show isB σ i = false by unfold isB; rw [hn]; rfl] at his
    rw [hr]
    clear hn hr hc
    go_enter Tryz.func53, Tryz.ntmps53
    go_wp2_with fail
    refine his.out.mono ?_
    rintro e w1 ⟨rfl, rfl⟩
    go_wp2_with fail
    go_ret
    exact ⟨rfl, rfl⟩
  | some n =>
    obtain ⟨j, rfl, hj⟩ := ndI_some hn
    obtain ⟨hjl, hj1⟩ := hF.cells hj
    have hj' : w.cell? ⟨nb, j * 8 + 1, none⟩ = some (.int .i64 n.mode) := by rw [hc j hjl 1 (by omega)]; unfold nodeR; rw [hj]; rfl
    rw [show isB σ j = true by unfold isB; rw [hn]; rfl] at his
    have hjI : (j : Int) < (((σ.length + 1 : Nat)) : Int) := by omega
    have hj0 : (0 : Int) ≤ (j : Int) := by omega
    have hmd := hM j n hj
    by_cases h1 : 1 ≤ k
    · by_cases h7 : k ≤ 7
      · obtain ⟨q, rfl⟩ : ∃ q : Nat, k = q := ⟨k.toNat, by omega⟩
        have hr : mayR σ j q = mayN n.mode q := by unfold mayR; rw [hn]; simp only; rw [if_pos ⟨h1, h7⟩]; rfl
        have hfact := rmay_fact ⟨n.mode, hmd⟩ ⟨q, by omega⟩
        simp only at hfact
        rw [hr]
        clear hn hr hc hj
        go_enter Tryz.func53, Tryz.ntmps53
        go_wp2_with fail
        refine his.out.mono ?_
        rintro e w1 ⟨rfl, rfl⟩
        clear his
        go_wp2_with fail
        go_ret
        exact ⟨ret_bool (by simp), rfl⟩
      · have hr : mayR σ j k = false := by unfold mayR; rw [hn]; simp only; rw [if_neg (fun e => h7 e.2)]
        rw [hr]
        clear hn hr hc hj
        go_enter Tryz.func53, Tryz.ntmps53
        go_wp2_with fail
        refine his.out.mono ?_
        rintro e w1 ⟨rfl, rfl⟩
        clear his
        go_wp2_with fail
        go_ret
        exact ⟨rfl, rfl⟩
    · have hr : mayR σ j k = false := by unfold mayR; rw [hn]; simp only; rw [if_neg (fun e => h1 e.1)]
      rw [hr]
      clear hn hr hc hj
      go_enter Tryz.func53, Tryz.ntmps53
      go_wp2_with fail
      refine his.out.mono ?_
      rintro e w1 ⟨rfl, rfl⟩
      clear his
      go_wp2_with fail
      go_ret
      exact ⟨rfl, rfl⟩
set_option maxRecDepth 100000 in
theorem rslash_any (w : World) (s : ByteArray) (hs : s.size ≤ 9223372036854775807) : Calls Tryz.prog 51 #[.string s] w fun e w' => e = .returned (.bool (slashS s.data.toList)) ∧ w' = w := by
  by_cases h0 : s.data.toList = []
  · have h1 := ba_empty h0
    have hr : slashS s.data.toList = false := by rw [h0]; rfl
    have hs0 : s = ⟨#[]⟩ := ba_of_data h0
    rw [hr]
    subst hs0
    go_enter Tryz.func51, Tryz.ntmps51
    go_wp2
    go_ret
    exact ⟨rfl, rfl⟩
  · have h1 := ba_nonempty h0
    have h2 : 0 < s.size := by rw [← ba_len]; exact List.length_pos_iff.2 h0
    have hr : slashS s.data.toList = (((s[s.size - 1]'(by omega)).toNat : Int) == 47) := by
      unfold slashS
      rw [List.getLast?_eq_getElem?, ba_len, List.getElem?_eq_getElem (by rw [ba_len]; omega)]
      show (some (s[s.size - 1]'(by omega)) == some slashB) = _
      generalize s[s.size - 1]'(by omega) = c
      by_cases e : c = slashB
      · subst e; rfl
      · have h9 : ((c.toNat : Int) == 47) = false := by
          cases hc : ((c.toNat : Int) == 47) with
          | false => rfl
          | true =>
            have h1 : (c.toNat : Int) = 47 := by simpa using hc
            exact absurd (UInt8.toNat_inj.1 (show c.toNat = slashB.toNat by show c.toNat = 47; omega)) e
        rw [h9]
        simpa using e
    rw [hr]
    have hidx : ((s.size : Int) - 1).toNat = s.size - 1 := by omega
    have hi0 : (0 : Int) ≤ (s.size : Int) - 1 := by omega
    have hi1 : (s.size : Int) - 1 < (s.size : Int) := by omega
    clear hr
    go_enter Tryz.func51, Tryz.ntmps51
    go_wp2
    go_ret
    exact ⟨rfl, rfl⟩
end Go.Proofs.YtlhmmiolnbgloaaGreatDoor
