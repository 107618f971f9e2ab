/- The tree of files as plain data: each directory's way leads to it; each entry that is told can be walked to; entries stand in order. No program in sight; no condition. -/
import Derived.Test.YthikjdpnlahkfaaDoorFilesNames
import Derived.Test.YthikjdpnlahkfaaDoorFilesTreeS
namespace Go.Proofs.YthikjdpnlahkfaaDoor
open Go.RowKit

/-- A step to a name. -/
theorem step_name {σ : FSt} (hN : AllN NamesN σ) (hO : AllN OpenN σ) (hL : Live σ) {i k : Nat} {n : Nd} {nm : List UInt8} (hi : σ.nd i = some n) (hd : n.d = true) (hk : kget nm n.ents = some k) : stepS σ i nm = (0, k) := by
  have h1 := hN i n hi _ (kget_mem hk)
  have h2 := hO i n hi hd
  have h3 := hL.names i n hi _ (kget_mem hk)
  simp only at h1 h3
  unfold stepS
  rw [hi]
  simp only
  unfold stepE hereE
  rw [hd, h2, hk]
  rw [if_neg (by decide), if_neg h1.2.1, if_neg h1.2.2.1, if_neg (by omega)]
  rfl
theorem over_name {σ : FSt} {l : List (List UInt8)} {i k : Nat} {nm : List UInt8} (h : overS σ l 1 = (0, i)) (hs : stepS σ i nm = (0, k)) : overS σ (l ++ [nm]) 1 = (0, k) := by
  rw [overS_append, h]
  simp [overS, hs]
theorem head_app {s t : List UInt8} (h : s ≠ []) : (s ++ t).head? = s.head? := by
  cases s with
  | nil => exact absurd rfl h
  | cons c r => rfl
theorem slash_app {s t : List UInt8} (h : t ≠ []) : slashS (s ++ t) = slashS t := by
  unfold slashS
  rw [List.getLast?_append]
  cases hl : t.getLast? with
  | none => exact absurd (List.getLast?_eq_none_iff.1 hl) h
  | some c => rfl
theorem up_leads {σ : FSt} (hN : AllN NamesN σ) (hO : AllN OpenN σ) (hL : Live σ) : ∀ {i : Nat} {s : List UInt8}, Up σ i s → overS σ (piecesS s) 1 = (0, i) ∧ (s ≠ [] → s.head? = some slashB ∧ slashS s = false)
  | _, _, .root => ⟨rfl, fun e => absurd rfl e⟩
  | _, _, .step (i := i) (n := n) (m := m) (nm := nm) (s := s) h1 h2 h3 h4 h5 h6 h7 h8 => by
    obtain ⟨g1, g2⟩ := up_leads hN hO hL h8
    have hnm := hN _ m h5 _ (kget_mem h7)
    simp only at hnm
    refine ⟨?_, fun _ => ⟨?_, ?_⟩⟩
    · rw [piecesS_append, piecesS_noSl hnm.2.2.2 hnm.1]
      exact over_name g1 (step_name hN hO hL h5 h6 h7)
    · cases s with
      | nil => rfl
      | cons c r => rw [head_app (by simp)]; exact (g2 (by simp)).1
    · rw [slash_app (by simp), show slashB :: nm = [slashB] ++ nm from rfl, slash_app hnm.1]
      exact slashS_noSl hnm.2.2.2
/-- The way to a directory leads there. -/
theorem path_leads {σ : FSt} (hN : AllN NamesN σ) (hO : AllN OpenN σ) (hL : Live σ) (hV : Inv σ 0) {i : Int} (hp : pathE σ i = 0) (hlen : (pathR σ i).length ≤ 256) : walkE σ 1 (pathR σ i) = (0, i.toNat) ∧ 1 ≤ i := by
  unfold pathE at hp
  cases hn : σ.ndI i with
  | none => rw [hn] at hp; cases hp
  | some n =>
    rw [hn] at hp
    obtain ⟨k, rfl, hk⟩ := ndI_some hn
    simp only at hp
    have hd : n.d = true := by
      cases hd : n.d with
      | true => rfl
      | false => rw [hd, if_pos rfl] at hp; cases hp
    rw [if_neg (by simp [hd])] at hp
    have hl : n.links ≠ 0 := fun e => by
      by_cases e1 : k = 1
      · obtain ⟨r, hr, _, hrl⟩ := hL.root
        rw [e1, hr] at hk
        cases hk
        omega
      · rw [if_pos ⟨by omega, e⟩] at hp; cases hp
    obtain ⟨s, hs⟩ := hV.path hk hd hl
    have hpe : pathE σ k = 0 := by
      unfold pathE
      rw [hn]
      simp only
      rw [if_neg (by simp [hd])]
      exact hp
    have hR : pathR σ k = slashed s := by unfold pathR; rw [if_pos hpe, Int.toNat_natCast, hs.way hV]
    rw [hR] at hlen ⊢
    obtain ⟨g1, g2⟩ := up_leads hN hO hL hs
    obtain ⟨r, hr, hrd, _⟩ := hL.root
    have hI : σ.ndI 1 = some r := hr
    have hk0 := nd_pos hk
    refine ⟨?_, by omega⟩
    rw [Int.toNat_natCast]
    have hst : startE σ 1 (slashed s) = (0, 1) := by
      unfold startE
      rw [hI]
      simp only [hrd, Bool.true_eq_false, if_false]
      rw [if_neg (by unfold slashed; split <;> simp_all), if_neg (by omega), if_pos]
      unfold slashed
      split
      · rfl
      · rename_i h0; exact (g2 h0).1
    have hpc : overS σ (piecesS (slashed s)) 1 = (0, k) := by
      unfold slashed
      split
      · rename_i h0
        rw [h0] at g1
        exact g1
      · exact g1
    unfold walkE
    rw [hst]
    simp only [hpc]
    rw [if_neg (fun e => e rfl), if_neg (fun e => e rfl), if_neg]
    rw [hk]
    simp [hd]
/-- An entry that is told, and where it is. -/
def Leads (σ : FSt) (x : EntQ) : Prop := ∃ k m, overS σ (piecesS x.path) 1 = (0, k) ∧ σ.nd k = some m ∧ x.kind = kindN m ∧ x.mode = m.mode ∧ x.data = m.data ∧ x.path ≠ [] ∧ x.path.head? ≠ some slashB ∧ slashS x.path = false
/-- The text ahead of a directory's entries. -/
def Ahead (P : List UInt8) : Prop := P = [] ∨ ∃ q, P = q ++ [slashB] ∧ q ≠ [] ∧ q.head? ≠ some slashB
theorem pieces_ahead {P nm : List UInt8} (hP : Ahead P) (h : NameOk nm) : piecesS (P ++ nm) = piecesS P ++ [nm] := by
  rcases hP with rfl | ⟨q, rfl, _, _⟩
  · rw [List.nil_append, piecesS_noSl h.2.2.2 h.1]; rfl
  · rw [List.append_assoc, show [slashB] ++ nm = slashB :: nm from rfl, piecesS_append, piecesS_noSl h.2.2.2 h.1, show [slashB] = slashB :: [] from rfl, piecesS_append]
    show _ = piecesS q ++ piecesS [] ++ [nm]
    rw [show piecesS [] = [] from rfl, List.append_nil]
theorem head_ahead {P nm : List UInt8} (hP : Ahead P) (h : NameOk nm) : (P ++ nm).head? ≠ some slashB := by
  rcases hP with rfl | ⟨q, rfl, hq, hh⟩
  · cases nm with
    | nil => exact absurd rfl h.1
    | cons c r => simpa using h.2.2.2 c (by simp)
  · rw [List.append_assoc, head_app hq]; exact hh
theorem tree_leads {σ : FSt} (hN : AllN NamesN σ) (hO : AllN OpenN σ) (hL : Live σ) (hV : Inv σ 0) : ∀ (fuel i : Nat) (P : List UInt8) (n : Nd), σ.nd i = some n → n.d = true → Ahead P → overS σ (piecesS P) 1 = (0, i) → ∀ x ∈ treeF σ fuel P i, Leads σ x
  | 0, _, _, _, _, _, _, _, x, hx => by cases hx
  | fuel + 1, i, P, n, hn, hd, hP, ho, x, hx => by
    rw [treeF_succ hn] at hx
    obtain ⟨l, hl, hxl⟩ := List.mem_flatten.1 hx
    obtain ⟨q, hq, rfl⟩ := List.mem_map.1 hl
    obtain ⟨nm, k⟩ := q
    have hkg := kget_of_mem (hV.srt i n hn) hq
    simp only at hkg
    have hok := hN i n hn _ hq
    simp only at hok
    obtain ⟨m, hm⟩ := Option.isSome_iff_exists.1 (hL.ents i n hn _ hq)
    simp only at hm
    have hov : overS σ (piecesS (P ++ nm)) 1 = (0, k) := by
      rw [pieces_ahead hP hok]
      exact over_name ho (step_name hN hO hL hn hd hkg)
    have hne : P ++ nm ≠ [] := fun e => hok.1 (List.append_eq_nil_iff.1 e).2
    have hself : Leads σ (entQ P nm m) := ⟨k, m, hov, hm, rfl, rfl, rfl, hne, head_ahead hP hok, by show slashS (P ++ nm) = false; rw [slash_app hok.1]; exact slashS_noSl hok.2.2.2⟩
    cases hmd : m.d with
    | false =>
      rw [entL_file hm hmd, List.mem_singleton] at hxl
      rw [hxl]; exact hself
    | true =>
      rw [entL_dir hm hmd] at hxl
      rcases List.mem_cons.1 hxl with rfl | hxl
      · exact hself
      · refine tree_leads hN hO hL hV fuel k (P ++ nm ++ [slashB]) m hm hmd (.inr ⟨P ++ nm, rfl, hne, head_ahead hP hok⟩) ?_ x hxl
        rw [show [slashB] = slashB :: [] from rfl, piecesS_append, show piecesS [] = [] from rfl, List.append_nil]
        exact hov
theorem entry_walk {σ : FSt} (hL : Live σ) {x : EntQ} (h : Leads σ x) (hlen : x.path.length ≤ 256) : ∃ k m, walkE σ 1 x.path = (0, k) ∧ σ.nd k = some m ∧ x.kind = kindN m ∧ x.mode = m.mode ∧ x.data = m.data := by
  obtain ⟨k, m, h1, h2, h3, h4, h5, h6, h7, h8⟩ := h
  obtain ⟨r, hr, hrd, _⟩ := hL.root
  have hI : σ.ndI 1 = some r := hr
  have hst : startE σ 1 x.path = (0, 1) := by
    unfold startE
    rw [hI]
    simp only [hrd, Bool.true_eq_false, if_false]
    rw [if_neg h6, if_neg (by omega), if_neg h7]
    rfl
  refine ⟨k, m, ?_, h2, h3, h4, h5⟩
  unfold walkE
  rw [hst]
  simp only [h1]
  rw [if_neg (fun e => e rfl), if_neg (fun e => e rfl), if_neg (by simp [h8])]
theorem treeL_leads {σ : FSt} (hN : AllN NamesN σ) (hO : AllN OpenN σ) (hL : Live σ) (hV : Inv σ 0) : ∀ x ∈ treeL σ, Leads σ x := by
  obtain ⟨r, hr, hrd, _⟩ := hL.root
  exact tree_leads hN hO hL hV 101 1 [] r hr hrd (.inl rfl) rfl
/-- A byte's place: the slash ahead of all. -/
def keyB (c : UInt8) : Int := if c = slashB then -1 else c.toNat
/-- Does a path stand ahead of another one? -/
def bef : List UInt8 → List UInt8 → Bool
  | [], [] => false
  | [], _ :: _ => true
  | _ :: _, [] => false
  | x :: a, y :: b => if x = y then bef a b else decide (keyB x < keyB y)
theorem bef_app (P a b : List UInt8) : bef (P ++ a) (P ++ b) = bef a b := by
  induction P with
  | nil => rfl
  | cons c r ih => show (if c = c then bef (r ++ a) (r ++ b) else _) = _; rw [if_pos rfl, ih]
theorem bef_nil {s : List UInt8} (h : s ≠ []) : bef [] s = true := by
  cases s with
  | nil => exact absurd rfl h
  | cons c r => rfl
/-- The rest behind a name. -/
def Rest (r : List UInt8) : Prop := r = [] ∨ ∃ t, r = slashB :: t
theorem bef_names : ∀ {a b : List UInt8}, bytesBefore a b = true → NoSl a → NoSl b → ∀ {r s : List UInt8}, Rest r → Rest s → bef (a ++ r) (b ++ s) = true := by
  intro a
  induction a with
  | nil =>
    intro b h ha hb r s hr hs
    cases b with
    | nil => rw [WideAt.bytes_irrefl] at h; cases h
    | cons y b =>
      have hy := hb y (by simp)
      rcases hr with rfl | ⟨t, rfl⟩
      · rfl
      · show (if slashB = y then _ else decide (keyB slashB < keyB y)) = true
        rw [if_neg (fun e => hy e.symm)]
        unfold keyB
        rw [if_pos rfl, if_neg hy]
        simp only [decide_eq_true_eq]
        omega
  | cons x a ih =>
    intro b h ha hb r s hr hs
    have hlt := before_lt h
    cases b with
    | nil => exact absurd hlt (List.not_lt_nil _)
    | cons y b =>
      have hx := ha x (by simp)
      have hy := hb y (by simp)
      show (if x = y then bef (a ++ r) (b ++ s) else decide (keyB x < keyB y)) = true
      by_cases e : x = y
      · rw [if_pos e]
        subst e
        refine ih (b := b) ?_ (fun c hc => ha c (List.mem_cons_of_mem _ hc)) (fun c hc => hb c (List.mem_cons_of_mem _ hc)) hr hs
        have : bytesBefore (x :: a) (x :: b) = bytesBefore a b := by simp [bytesBefore]
        rw [← this]; exact h
      · rw [if_neg e]
        unfold keyB
        rw [if_neg hx, if_neg hy]
        have hxy : x < y := by
          rcases List.cons_lt_cons_iff.1 hlt with h1 | h1
          · exact h1
          · exact absurd h1.1 e
        have : x.toNat < y.toNat := hxy
        simp only [decide_eq_true_eq]
        omega
/-- Entries stand in order. -/
theorem tree_order {σ : FSt} (hN : AllN NamesN σ) (hL : Live σ) (hV : Inv σ 0) : ∀ (fuel i : Nat) (P : List UInt8) (n : Nd), σ.nd i = some n → n.d = true →
    (treeF σ fuel P i).Pairwise (fun x y => bef x.path y.path = true) ∧ ∀ x ∈ treeF σ fuel P i, ∃ q ∈ n.ents, ∃ r, Rest r ∧ x.path = P ++ (q.1 ++ r)
  | 0, _, _, _, _, _ => ⟨List.Pairwise.nil, fun x hx => by cases hx⟩
  | fuel + 1, i, P, n, hn, hd => by
    have one : ∀ q ∈ n.ents, (entL σ (treeF σ fuel) P q).Pairwise (fun x y => bef x.path y.path = true) ∧ ∀ x ∈ entL σ (treeF σ fuel) P q, ∃ r, Rest r ∧ x.path = P ++ (q.1 ++ r) := by
      rintro ⟨nm, k⟩ hq
      obtain ⟨m, hm⟩ := Option.isSome_iff_exists.1 (hL.ents i n hn _ hq)
      simp only at hm
      cases hmd : m.d with
      | false =>
        rw [entL_file hm hmd]
        refine ⟨List.pairwise_singleton _ _, fun x hx => ?_⟩
        rw [List.mem_singleton] at hx
        rw [hx]
        exact ⟨[], .inl rfl, by show P ++ nm = P ++ (nm ++ []); rw [List.append_nil]⟩
      | true =>
        rw [entL_dir hm hmd]
        obtain ⟨g1, g2⟩ := tree_order hN hL hV fuel k (P ++ nm ++ [slashB]) m hm hmd
        refine ⟨List.pairwise_cons.2 ⟨fun y hy => ?_, g1⟩, fun x hx => ?_⟩
        · obtain ⟨q, hq, r, hr, e⟩ := g2 y hy
          rw [e]
          show bef (P ++ nm) _ = true
          have e2 : P ++ nm ++ [slashB] ++ (q.1 ++ r) = (P ++ nm) ++ (slashB :: (q.1 ++ r)) := by simp
          have e3 := bef_app (P ++ nm) [] (slashB :: (q.1 ++ r))
          rw [List.append_nil] at e3
          rw [e2, e3]; rfl
        · rcases List.mem_cons.1 hx with rfl | hx
          · exact ⟨[], .inl rfl, by show P ++ nm = P ++ (nm ++ []); rw [List.append_nil]⟩
          · obtain ⟨q, hq, r, hr, e⟩ := g2 x hx
            exact ⟨slashB :: (q.1 ++ r), .inr ⟨_, rfl⟩, by rw [e]; simp⟩
    rw [treeF_succ hn]
    refine ⟨List.pairwise_flatten.2 ⟨fun l hl => ?_, ?_⟩, fun x hx => ?_⟩
    · obtain ⟨q, hq, rfl⟩ := List.mem_map.1 hl
      exact (one q hq).1
    · rw [List.pairwise_map]
      refine (hV.srt i n hn).imp_of_mem fun {a b} ha hb hab x hx y hy => ?_
      obtain ⟨r, hr, e1⟩ := (one a ha).2 x hx
      obtain ⟨s, hs, e2⟩ := (one b hb).2 y hy
      rw [e1, e2, bef_app]
      exact bef_names hab (hN i n hn a ha).2.2.2 (hN i n hn b hb).2.2.2 hr hs
    · obtain ⟨l, hl, hxl⟩ := List.mem_flatten.1 hx
      obtain ⟨q, hq, rfl⟩ := List.mem_map.1 hl
      obtain ⟨r, hr, e⟩ := (one q hq).2 x hxl
      exact ⟨q, hq, r, hr, e⟩
theorem treeL_order {σ : FSt} (hN : AllN NamesN σ) (hL : Live σ) (hV : Inv σ 0) : (treeL σ).Pairwise (fun x y => bef x.path y.path = true) := by
  obtain ⟨r, hr, hrd, _⟩ := hL.root
  exact (tree_order hN hL hV 101 1 [] r hr hrd).1
end Go.Proofs.YthikjdpnlahkfaaDoor
