/- shyardref08.pieces. Conditions: the contract's own premises. -/
import Derived.Test.YtlhmmiolnbgloaaGreatDoorFrefD
import Derived.Test.YtlhmmiolnbgloaaGreatDoorFilesPathsL
import Derived.OwnWalk
namespace Go.Proofs.YtlhmmiolnbgloaaGreatDoor
open Go.RowKit

/-- The pieces of what is left, behind a piece so far. -/
def pcs : List UInt8 → List UInt8 → List (List UInt8)
  | [], cur => if cur = [] then [] else [cur]
  | c :: r, cur => if c = slashB then (if cur = [] then [] else [cur]) ++ pcs r [] else pcs r (cur ++ [c])
def headApp (cur : List UInt8) : List (List UInt8) → List (List UInt8)
  | [] => [cur]
  | p :: q => (cur ++ p) :: q
theorem pcs_split : ∀ (r cur : List UInt8), pcs r cur = (headApp cur (splitS r)).filter fun p => !p.isEmpty
  | [], cur => by
    show (if cur = [] then [] else [cur]) = ([cur ++ []] : List (List UInt8)).filter _
    rw [List.append_nil]
    cases cur <;> simp
  | c :: r, cur => by
    by_cases e : c = slashB
    · subst e
      rw [splitS_slash]
      show (if slashB = slashB then _ else _) = ((cur ++ []) :: splitS r).filter _
      rw [if_pos rfl, List.append_nil, pcs_split r []]
      have h1 : headApp [] (splitS r) = splitS r := by
        cases hs : splitS r with
        | nil => exact absurd hs (splitS_ne r)
        | cons p q => rfl
      rw [h1]
      cases cur <;> simp
    · show (if c = slashB then _ else _) = _
      rw [if_neg e, splitS_cons e, pcs_split r (cur ++ [c])]
      cases hs : splitS r with
      | nil => exact absurd hs (splitS_ne r)
      | cons p q => simp [headApp, glue]
theorem pcs_pieces (s : List UInt8) : pcs s [] = piecesS s := by
  rw [pcs_split]
  unfold piecesS
  cases hs : splitS s with
  | nil => exact absurd hs (splitS_ne s)
  | cons p q => rfl
theorem drop_at {s : ByteArray} {k : Nat} (h : k < s.size) : s.data.toList.drop k = s[k] :: s.data.toList.drop (k + 1) := by
  have h2 : k < s.data.toList.length := by rw [ba_len]; exact h
  rw [List.drop_eq_getElem_cons h2]
  rfl
theorem key_other' {c : UInt8} (h : c ≠ slashB) : ((c.toNat : Int) == 47) = false := by
  cases h2 : ((c.toNat : Int) == 47) with
  | false => rfl
  | true =>
    have h9 : (c.toNat : Int) = 47 := by simpa using h2
    exact absurd (UInt8.toNat_inj.1 (show c.toNat = slashB.toNat by show _ = 47; omega)) h
def bas (l : List (List UInt8)) : List ByteArray := l.map baL
def RpPost (s : List UInt8) (w : World) (e : Ending) (w' : World) : Prop := ∃ v, e = .returned v ∧ ArgsV w' (fun k => w.heap.size ≤ k) v (bas (piecesS s)) ∧ Fr (fun _ => False) w w'
def RpRel (s : ByteArray) (w : World) (gk : Nat) (lv fv iv : Value) (wr : World) : Prop :=
  ∃ (acc : List (List UInt8)) (fr i : Nat), gk + i = s.size + 1 ∧ iv = .int .i64 i ∧ fv = .int .i64 fr ∧ fr ≤ i ∧ acc.length ≤ i ∧ wr.ownsRow w.heap.size 9 1 lv acc.length (strs (bas acc)) ∧ Fr (fun _ => False) w wr ∧
    ((i ≤ s.size ∧ acc ++ pcs (s.data.toList.drop i) ((s.data.toList.drop fr).take (i - fr)) = piecesS s.data.toList) ∨ (i = s.size + 1 ∧ acc = piecesS s.data.toList))
theorem Tryz.infoStr : (Tryz.prog.info? 9).map (fun i => (i.zero, i.size, i.bytes)) = some (some (.string ⟨#[]⟩), 1, 16) := by kernel_rfl
set_option maxRecDepth 100000 in
set_option maxHeartbeats 2000000 in
theorem rpieces_any (w : World) (s : ByteArray) (hs : s.size ≤ 1000000) : Calls Tryz.prog 74 #[.string s] w (RpPost s.data.toList w) := by
  obtain ⟨i0, hinf, hz0, hz1, hz2⟩ := info_parts Tryz.infoStr
  have Hres := hide (show ∀ v w', w'.ownsRow w.heap.size 9 1 v (piecesS s.data.toList).length (strs (bas (piecesS s.data.toList))) → Fr (fun _ => False) w w' → RpPost s.data.toList w (.returned v) w' from fun v w' h1 h2 =>
    ⟨v, rfl, own_args h1 (by simp [bas]) (fun _ h => h), h2⟩)
  go_enter Tryz.func74, Tryz.ntmps74
  go_wp2_with fail
  go_loopg [3, 4, 5] (s.size + 1) (fun gk lv fv iv wr => RpRel s w gk lv fv iv wr)
  case atStart => exact ⟨[], 0, 0, by omega, rfl, rfl, Nat.le_refl _, Nat.le_refl _, World.ownsRow_nil _ _ _ _, Fr.refl _ _, .inl ⟨Nat.zero_le _, by rw [List.drop_zero, List.nil_append]; exact pcs_pieces _⟩⟩
  case round =>
    obtain ⟨acc, fr, i, hgk, rfl, rfl, hfi, hacc, hown, hfr, hcase⟩ := hrel
    have Hgk := hide hgk
    have Hfr := hide hfr
    obtain ⟨va, vc, rfl⟩ := own_form hown
    rcases hcase with ⟨hi, heq⟩ | ⟨hi, heq⟩
    · have hcl : ((s.data.toList.drop fr).take (i - fr)).length = i - fr := by rw [List.length_take, List.length_drop, ba_len]; omega
      have hext : baL ((s.data.toList.drop fr).take (i - fr)) = s.extract fr i := ba_of_data (by rw [ba_extract]; rfl)
      have hi0 : (0 : Int) ≤ (i : Int) := by omega
      have hf0 : (0 : Int) ≤ (fr : Int) := by omega
      have hfI : (fr : Int) ≤ (i : Int) := by omega
      have hiI : (i : Int) ≤ (s.size : Int) := by omega
      have Hown := hide hown
      obtain ⟨cur, hcur⟩ : ∃ cur, cur = (s.data.toList.drop fr).take (i - fr) := ⟨_, rfl⟩
      rw [← hcur] at hcl hext heq
      have hcut : (∃ h : i < s.size, s[i] ≠ slashB) ∨ ((i = s.size ∨ ∃ h : i < s.size, s[i] = slashB) ∧ ∀ (acc' : List (List UInt8)) v' w', acc' = acc ++ (if cur = [] then [] else [cur]) → w'.ownsRow w.heap.size 9 1 v' acc'.length (strs (bas acc')) → Fr (fun _ => False) w w' → RpRel s w (gk - 1) v' (.int .i64 ((i : Int) + 1)) (.int .i64 ((i : Int) + 1)) w') := by
        by_cases h1 : i < s.size
        · by_cases h2 : s[i] = slashB
          · refine .inr ⟨.inr ⟨h1, h2⟩, fun acc' v' w' h3 h4 h5 => ⟨acc', i + 1, i + 1, by omega, by go_num, by go_num, Nat.le_refl _, by rw [h3]; split <;> simp <;> omega, h4, h5, .inl ⟨by omega, ?_⟩⟩⟩
            rw [drop_at h1, h2] at heq
            have e : pcs (slashB :: s.data.toList.drop (i + 1)) cur = (if cur = [] then [] else [cur]) ++ pcs (s.data.toList.drop (i + 1)) [] := by
              show (if slashB = slashB then _ else _) = _
              rw [if_pos rfl]
            rw [e, ← List.append_assoc, ← h3] at heq
            rw [Nat.sub_self, List.take_zero]
            exact heq
          · exact .inl ⟨h1, h2⟩
        · refine .inr ⟨.inl (by omega), fun acc' v' w' h3 h4 h5 => ⟨acc', i + 1, i + 1, by omega, by go_num, by go_num, Nat.le_refl _, by rw [h3]; split <;> simp <;> omega, h4, h5, .inr ⟨by omega, ?_⟩⟩⟩
          rw [show s.data.toList.drop i = [] from List.drop_eq_nil_of_le (by rw [ba_len]; omega)] at heq
          rw [h3]; exact heq
      rcases hcut with ⟨h1, h2⟩ | ⟨hc, hnext⟩
      · have k1 := key_other' h2
        have hlt : (i : Int) < (s.size : Int) := by omega
        have hne : ¬ ((i : Int) = (s.size : Int)) := by omega
        have hnext := hide (show RpRel s w (gk - 1) (.slice va acc.length vc) (.int .i64 fr) (.int .i64 ((i : Int) + 1)) wr from ⟨acc, fr, i + 1, by omega, by go_num, rfl, by omega, by omega, hown, hfr, .inl ⟨h1, by
          rw [drop_at h1] at heq
          have e : pcs (s[i] :: s.data.toList.drop (i + 1)) cur = pcs (s.data.toList.drop (i + 1)) (cur ++ [s[i]]) := by
            show (if s[i] = slashB then _ else _) = _
            rw [if_neg h2]
          rw [e] at heq
          have e2 : (s.data.toList.drop fr).take (i + 1 - fr) = cur ++ [s[i]] := by
            rw [show i + 1 - fr = (i - fr) + 1 by omega, List.take_add_one, ← hcur, List.getElem?_drop, show fr + (i - fr) = i by omega, List.getElem?_eq_getElem (by rw [ba_len]; exact h1)]
            rfl
          rw [e2]; exact heq⟩⟩)
        clear hown hfr heq hcur hcl hext h2 hgk Hown
        go_wp2_with fail
        go_roundg (gk - 1)
        case measure => have := Hgk.out; omega
        case rel => exact hnext.out
      · have Hnext := hide hnext
        by_cases hgt : fr < i
        · have hgtI : (fr : Int) < (i : Int) := by omega
          have hne : cur ≠ [] := fun e => by rw [e] at hcl; simp at hcl; omega
          have Hne := hide hne
          have Hext := hide hext
          clear hown heq hcur hcl hext hgk hnext hne
          rcases hc with hc | ⟨h1, h2⟩
          · subst hc
            go_wp2_with (at_builtin; refine wpList_append_own _ rfl _ _ 28 rfl w.heap.size 9 i0 (.string ⟨#[]⟩) 1 16 Tryz.underlying28 hinf hz0 hz1 hz2 rfl (by decide) _ _ _ rfl (Hown.out.alloc _) ⟨wr.heap.size, 0, none⟩ 1 1 [.string (s.extract fr s.size)] rfl rfl ?c1 ?c2 ?c3 ?c4 ?c5 ?_)
            case c1 => exact cell_one_new _ _ _
            case c2 => intro u hu; simp at hu; subst hu; rfl
            case c3 => unfold maxLen; omega
            case c4 => omega
            case c5 => have := Hfr.out.size; simp; omega
            intro v' w1 hown' hgrow _
            have hf1 : Fr (fun q => (Value.slice va acc.length vc).ownBlock = some q) wr w1 := ((Fr.refl _ _).alloc _).trans (Fr.of_grown hgrow)
            have hnx := hide (Hnext.out (acc ++ [cur]) v' w1 (by rw [if_neg Hne.out]) (by
              have e : strs (bas (acc ++ [cur])) = strs (bas acc) ++ [.string (s.extract fr s.size)] := by simp [bas, strs, Hext.out]
              rw [e, List.length_append]; exact hown') (Hfr.out.trans' hf1 (fun q hq e => by have := (Hown.out.lt _ e).1; omega)))
            clear hown' hgrow hf1 Hnext Hown
            go_wp2_with fail
            go_roundg (gk - 1)
            case measure => have := Hgk.out; omega
            case rel => exact hnx.out
          · have hlt : (i : Int) < (s.size : Int) := by omega
            have hne : ¬ ((i : Int) = (s.size : Int)) := by omega
            have k1 : ((s[i].toNat : Int) == 47) = true := by rw [h2]; rfl
            clear h2
            go_wp2_with (at_builtin; refine wpList_append_own _ rfl _ _ 28 rfl w.heap.size 9 i0 (.string ⟨#[]⟩) 1 16 Tryz.underlying28 hinf hz0 hz1 hz2 rfl (by decide) _ _ _ rfl (Hown.out.alloc _) ⟨wr.heap.size, 0, none⟩ 1 1 [.string (s.extract fr i)] rfl rfl ?c1 ?c2 ?c3 ?c4 ?c5 ?_)
            case c1 => exact cell_one_new _ _ _
            case c2 => intro u hu; simp at hu; subst hu; rfl
            case c3 => unfold maxLen; omega
            case c4 => omega
            case c5 => have := Hfr.out.size; simp; omega
            intro v' w1 hown' hgrow _
            have hf1 : Fr (fun q => (Value.slice va acc.length vc).ownBlock = some q) wr w1 := ((Fr.refl _ _).alloc _).trans (Fr.of_grown hgrow)
            have hnx := hide (Hnext.out (acc ++ [cur]) v' w1 (by rw [if_neg Hne.out]) (by
              have e : strs (bas (acc ++ [cur])) = strs (bas acc) ++ [.string (s.extract fr i)] := by simp [bas, strs, Hext.out]
              rw [e, List.length_append]; exact hown') (Hfr.out.trans' hf1 (fun q hq e => by have := (Hown.out.lt _ e).1; omega)))
            clear hown' hgrow hf1 Hnext Hown
            go_wp2_with fail
            go_roundg (gk - 1)
            case measure => have := Hgk.out; omega
            case rel => exact hnx.out
        · have hgtI : ¬ (fr : Int) < (i : Int) := by omega
          have hnx := hide (hnext acc _ wr (by rw [if_pos (List.eq_nil_of_length_eq_zero (by rw [hcl]; omega)), List.append_nil]) hown hfr)
          clear hown hfr heq hcur hcl hext hgk hnext Hnext Hown
          rcases hc with hc | ⟨h1, h2⟩
          · subst hc
            go_wp2_with fail
            go_roundg (gk - 1)
            case measure => have := Hgk.out; omega
            case rel => exact hnx.out
          · have hlt : (i : Int) < (s.size : Int) := by omega
            have hne : ¬ ((i : Int) = (s.size : Int)) := by omega
            have k1 : ((s[i].toNat : Int) == 47) = true := by rw [h2]; rfl
            clear h2
            go_wp2_with fail
            go_roundg (gk - 1)
            case measure => have := Hgk.out; omega
            case rel => exact hnx.out
    · have hr := hide (Hres.out _ wr (by rw [← heq]; exact hown) hfr)
      have hiI : ¬ (i : Int) ≤ (s.size : Int) := by omega
      clear hown heq hfr
      go_wp2_with fail
      go_returns
      exact hr.out
end Go.Proofs.YtlhmmiolnbgloaaGreatDoor

/- shyardref08.FS.Walk. Conditions: the contract's own premises. -/
namespace Go.Proofs.YtlhmmiolnbgloaaGreatDoor
open Go.RowKit

/-- What the document's tree of files is told of: a tree that is good. -/
structure RG (σ : FSt) : Prop where
  live : Live σ
  md : AllM σ
  cap : CapB σ
theorem piece_size {s : List UInt8} : ∀ p ∈ piecesS s, p.length ≤ s.length := by
  have key : ∀ (t : List UInt8), ∀ p ∈ splitS t, p.length ≤ t.length := by
    intro t
    induction t with
    | nil => intro p hp; have : p = [] := by simpa [splitS] using hp
             rw [this]; exact Nat.le_refl _
    | cons c r ih =>
      intro p hp
      by_cases e : c = slashB
      · subst e
        rw [splitS_slash] at hp
        rcases List.mem_cons.1 hp with rfl | hp
        · exact Nat.zero_le _
        · have := ih p hp; simp; omega
      · rw [splitS_cons e] at hp
        cases hs : splitS r with
        | nil => exact absurd hs (splitS_ne r)
        | cons q t =>
          rw [hs] at hp ih
          rcases List.mem_cons.1 hp with rfl | hp
          · have := ih q (by simp); simp; omega
          · have := ih p (List.mem_cons_of_mem _ hp); simp; omega
  intro p hp
  exact key s p (List.mem_filter.1 hp).1
theorem pieces_count (s : List UInt8) : (piecesS s).length ≤ s.length + 1 := by
  have key : ∀ t : List UInt8, (splitS t).length ≤ t.length + 1 := by
    intro t
    induction t with
    | nil => simp [splitS]
    | cons c r ih =>
      by_cases e : c = slashB
      · subst e; rw [splitS_slash]; simp; omega
      · rw [splitS_cons e]
        cases hs : splitS r with
        | nil => exact absurd hs (splitS_ne r)
        | cons p q => rw [hs] at ih; simp [glue] at ih ⊢; omega
  exact Nat.le_trans (List.length_filter_le _ _) (key s)
def RwRel (σ : FSt) (L : List (List UInt8)) (a0 : Nat) (w : World) (gk : Nat) (av ev iv : Value) (wr : World) : Prop :=
  ∃ k a, gk + k = L.length ∧ av = .int .i64 (a : Nat) ∧ ev = .int .i64 0 ∧ iv = .int .i64 k ∧ overS σ (L.take k) a0 = (0, a) ∧ (σ.nd a).isSome = true ∧ Fr (fun _ => False) w wr
def RwPost (σ : FSt) (dir : Int) (s : List UInt8) (w : World) (e : Ending) (w' : World) : Prop :=
  e = .returned (.tuple #[.int .i64 (if (walkE σ dir s).1 = 0 then ((walkE σ dir s).2 : Int) else 0), .int .i64 (walkE σ dir s).1]) ∧ Fr (fun _ => False) w w'
end Go.Proofs.YtlhmmiolnbgloaaGreatDoor

/- shyardref08.FS.ahead. Conditions: the contract's own premises. -/
namespace Go.Proofs.YtlhmmiolnbgloaaGreatDoor
open Go.RowKit

def RaPost (σ : FSt) (dir : Int) (s : List UInt8) (w : World) (e : Ending) (w' : World) : Prop :=
  e = .returned (.tuple #[.int .i64 ((aheadE σ dir s).2.1 : Nat), .string (baL (aheadE σ dir s).2.2), .int .i64 (aheadE σ dir s).1]) ∧ Fr (fun _ => False) w w'
def aheadL (σ : FSt) (L : List (List UInt8)) (a0 : Nat) : Int × Nat × List UInt8 :=
  if (overS σ L.dropLast a0).1 ≠ 0 then ((overS σ L.dropLast a0).1, 0, [])
  else if hereS σ (overS σ L.dropLast a0).2 ≠ 0 then (hereS σ (overS σ L.dropLast a0).2, 0, [])
  else match L.getLast? with
    | none => (22, 0, [])
    | some p => if p = dot ∨ p = dots then (22, 0, []) else if 32 < p.length then (36, 0, []) else (0, (overS σ L.dropLast a0).2, p)
set_option maxRecDepth 100000 in
set_option maxHeartbeats 4000000 in
theorem rahead_any (w : World) (g : Nat) (σ : FSt) (S : Nat → Prop) (h : RfAt w g σ S) (hG : RG σ) (dir : Int) (hi : -9223372036854775808 ≤ dir ∧ dir ≤ 9223372036854775807) (s : ByteArray) (hs : s.size ≤ 9223372036854775807) :
    Calls Tryz.prog 50 #[.pointer (some ⟨g, 0, none⟩), .int .i64 dir, .string s] w (RaPost σ dir s.data.toList w) := by
  have hlen := hG.live.len
  have hbeg := rbegin_any w g σ S h (by omega) dir hi s hs
  unfold RbegPost at hbeg
  have hfin := hide (show ∀ E A N w', aheadE σ dir s.data.toList = (E, A, N) → Fr (fun _ => False) w w' → RaPost σ dir s.data.toList w (.returned (.tuple #[.int .i64 (A : Nat), .string (baL N), .int .i64 E])) w' from fun E A N w' h1 h2 => ⟨by rw [h1], h2⟩)
  have hdef : aheadE σ dir s.data.toList = if (startE σ dir s.data.toList).1 ≠ 0 then ((startE σ dir s.data.toList).1, 0, []) else aheadL σ (piecesS s.data.toList) (startE σ dir s.data.toList).2 := rfl
  have hsok := fun h0 => start_ok hG.live (dir := dir) (s := s.data.toList) h0
  have hs256 : (startE σ dir s.data.toList).1 = 0 → s.size ≤ 256 := fun h0 => by
    unfold startE at h0
    split at h0
    · cases h0
    · split at h0
      · cases h0
      · split at h0
        · cases h0
        · split at h0
          · cases h0
          · rename_i h9; rw [ba_len] at h9; omega
  rw [hdef] at hfin
  clear hdef
  generalize startE σ dir s.data.toList = q at *
  obtain ⟨E, a0⟩ := q
  simp only at hbeg hfin hsok hs256
  have HA := hide h
  have hbeg := hide hbeg
  by_cases hE : E = 0
  · subst hE
    have ha0 := hsok rfl
    have hsz := hs256 rfl
    have hpc := hide (fun w1 => rpieces_any w1 s (by omega))
    have hps : ∀ p ∈ piecesS s.data.toList, p.length ≤ 256 := fun p hp => by have := piece_size p hp; rw [ba_len] at this; omega
    have hLl := pieces_count s.data.toList
    rw [ba_len] at hLl
    obtain ⟨L, hL⟩ : ∃ L, L = piecesS s.data.toList := ⟨_, rfl⟩
    unfold RpPost at hpc
    rw [← hL] at hfin hpc hps hLl
    have hfin := hide (show ∀ E A N w', aheadL σ L a0 = (E, A, N) → Fr (fun _ => False) w w' → RaPost σ dir s.data.toList w (.returned (.tuple #[.int .i64 (A : Nat), .string (baL N), .int .i64 E])) w' from fun E A N w' h1 h2 => hfin.out E A N w' (by rw [if_neg (fun e => e rfl)]; exact h1) h2)
    unfold aheadL at hfin
    obtain ⟨D, hD⟩ : ∃ D, D = L.dropLast := ⟨_, rfl⟩
    have hDl : D.length = L.length - 1 := by rw [hD, List.length_dropLast]
    have hDg : ∀ k (h : k < D.length), D[k] = L[k]'(by omega) := fun k h => by subst hD; simp
    rw [← hD] at hfin
    have HDl := hide hDl
    have HDg := hide (show ∀ k (h : k < D.length) (h2 : k < L.length), D[k] = L[k] from fun k h h2 => hDg k h)
    clear hD hDl hDg
    have Ha0 := hide ha0
    have Hps := hide hps
    have HG := hide hG
    clear hsok hs256 hL h hps ha0 hG
    go_enter Tryz.func50, Tryz.ntmps50
    go_wp2_with fail
    refine hbeg.out.mono ?_
    rintro e w ⟨rfl, rfl⟩
    clear hbeg
    go_wp2_with fail
    refine (hpc.out _).mono ?_
    rintro e w2 ⟨lv, rfl, hlv, hf2⟩
    obtain ⟨la, lc, rfl⟩ := hlv.form
    have Hlv := hide hlv
    have Hf2 := hide hf2
    have hll : (bas L).length = L.length := by unfold bas; rw [List.length_map]
    rw [hll] at Hlv ⊢
    clear hpc hlv hf2
    go_wp2_with fail
    go_loopg [9, 10, 12] D.length (fun gk av ev iv wr => RwRel σ D a0 w2 gk av ev iv wr)
    case atStart => exact ⟨0, a0, by omega, rfl, rfl, rfl, rfl, Ha0.out, Fr.refl _ _⟩
    case round =>
      obtain ⟨k, a, hgk, rfl, rfl, rfl, hov, hsome, hfr⟩ := hrel
      have Hgk := hide hgk
      have hlvr := Hlv.out.frame hfr (fun _ _ _ e => e)
      have hAr := HA.out.frame (Hf2.out.trans hfr) (fun _ _ _ e => e)
      have haL := (FSt.nd_lt hsome).2
      have Hfr := hide (Hf2.out.trans hfr)
      have Hfr2 := hide hfr
      clear hgk hfr
      by_cases hlt : k < D.length
      · have hkl : k < L.length := by have := HDl.out; omega
        obtain ⟨-, -, hc⟩ := hlvr.at
        obtain ⟨g1, o1, rfl, hc1⟩ := hc.resolve_left (by omega)
        have x1 := hc1 k (by rw [hll]; exact hkl)
        have hpk := Hps.out (L[k]'hkl) (List.getElem_mem _)
        have hstep := rstep_any wr g σ S hAr HG.out.live HG.out.md HG.out.cap a haL (baL (L[k]'hkl)) (by simp [baL, ByteArray.size]; omega)
        rw [show (baL (L[k]'hkl)).data.toList = L[k]'hkl from rfl] at hstep
        unfold RstepPost at hstep
        simp only [bas, List.getElem_map] at x1
        have hkI : (k : Int) + 1 < (L.length : Int) := by have := HDl.out; omega
        have hkI2 : (k : Int) < (L.length : Int) := by omega
        have hk0 : (0 : Int) ≤ (k : Int) := by omega
        have hDk := HDg.out k hlt hkl
        have hnext := hide (show (stepS σ a D[k]).1 = 0 → ∀ w', Fr (fun _ => False) w2 w' → RwRel σ D a0 w2 (gk - 1) (.int .i64 ((stepS σ a D[k]).2 : Nat)) (.int .i64 0) (.int .i64 ((k : Int) + 1)) w' from fun h0 w' hf => ⟨k + 1, _, by have := Hgk.out; omega, rfl, rfl, by go_num, over_next hlt hov h0, (over_next hlt hov h0 ▸ overS_ok HG.out.live _ Ha0.out : (σ.nd (overS σ (D.take (k + 1)) a0).2).isSome = true) |> fun h => by rw [over_next hlt hov h0] at h; exact h, hf⟩)
        have herr := hide (show (stepS σ a D[k]).1 ≠ 0 → ∀ w', Fr (fun _ => False) w w' → RaPost σ dir s.data.toList w (.returned (.tuple #[.int .i64 0, .string ⟨#[]⟩, .int .i64 (stepS σ a D[k]).1])) w' from fun h0 w' hf => by
          have e9 := over_err hlt (Nat.le_refl _) hov h0
          rw [List.take_length] at e9
          exact hfin.out (stepS σ a D[k]).1 0 [] w' (by rw [e9, if_pos h0]) hf)
        rw [hDk] at hnext herr
        clear hc1 hc hlvr hov hAr hDk
        generalize stepS σ a (L[k]'hkl) = sp at *
        generalize baL (L[k]'hkl) = pk at *
        obtain ⟨e1, a1⟩ := sp
        simp only at hstep
        by_cases he1 : e1 = 0
        · subst he1
          rw [if_pos rfl] at hstep
          have hstep := hide hstep
          have hnx := hide (show ∀ w', Fr (fun _ => False) w2 w' → RwRel σ D a0 w2 (gk - 1) (.int .i64 (a1 : Nat)) (.int .i64 0) (.int .i64 ((k : Int) + 1)) w' from hnext.out rfl)
          clear hnext herr
          go_wp2_with fail
          refine hstep.out.mono ?_
          rintro e w3 ⟨rfl, hf3⟩
          have hn := hide (hnx.out w3 (Hfr2.out.trans hf3))
          clear hstep hf3 hnx
          go_wp2_with fail
          go_roundg (gk - 1)
          case measure => have := Hgk.out; omega
          case rel => exact hn.out
        · rw [if_neg he1] at hstep
          have hstep := hide hstep
          have hnx := hide (show ∀ w', Fr (fun _ => False) w w' → RaPost σ dir s.data.toList w (.returned (.tuple #[.int .i64 0, .string ⟨#[]⟩, .int .i64 e1])) w' from herr.out he1)
          clear hnext herr
          go_wp2_with fail
          refine hstep.out.mono ?_
          rintro e w3 ⟨rfl, hf3⟩
          have hn := hide (hnx.out w3 (Hfr.out.trans hf3))
          clear hstep hf3 hnx
          go_wp2_with fail
          go_returns
          exact hn.out
      · have hkI : ¬ (k : Int) + 1 < (L.length : Int) := by have := HDl.out; omega
        have hke : k = D.length := by have := Hgk.out; omega
        have hkb : k ≤ 1000 := by have := HDl.out; omega
        rw [hke, List.take_length] at hov
        clear hke
        rw [hov] at hfin
        obtain ⟨n, hn⟩ := Option.isSome_iff_exists.1 hsome
        have hmay := rmay_any wr g σ S hAr (by omega) HG.out.md a 1 (by omega) (by decide)
        rw [show mayR σ a 1 = mayN n.mode 1 by unfold mayR; rw [ndI_cast, hn]; rfl] at hmay
        have hmay := hide hmay
        obtain ⟨rv, nv, iv, hF⟩ := hAr
        have c0 : wr.cell? ⟨g, 0, none⟩ = some rv := by rw [blk_cell hF.hb]; rfl
        obtain ⟨nb, cap, rfl, hnb, k0, k1, k2, k3, k4, dt, na, nc, ia, ic, -, -, -, q0, -, -, -, -, -, -, -, hsm, -⟩ := hF.node haL
        obtain ⟨e0, -⟩ := hsm n hn
        have haI : (a : Int) < (((σ.length + 1 : Nat)) : Int) := by omega
        have ha0' : (0 : Int) ≤ (a : Int) := by omega
        have hfin := hide (show ∀ E A N, (if hereE n ≠ 0 then (hereE n, 0, []) else match L.getLast? with
          | none => ((22 : Int), (0 : Nat), ([] : List UInt8))
          | some p => if p = dot ∨ p = dots then (22, 0, []) else if 32 < p.length then (36, 0, []) else (0, a, p)) = (E, A, N) → RaPost σ dir s.data.toList w (.returned (.tuple #[.int .i64 (A : Nat), .string (baL N), .int .i64 E])) wr from fun E A N h1 => hfin.out E A N wr (by rw [if_neg (fun e => e rfl), show hereS σ a = hereE n by unfold hereS; rw [hn]]; exact h1) Hfr.out)
        unfold hereE at hfin
        clear hF hsm hn HA Ha0 hov hsome HG
        cases hd : n.d with
        | false =>
          obtain rfl : k0 = 1 := e0.trans (by unfold kindN; rw [hd]; rfl)
          have hr := hide (hfin.out 20 0 [] (by rw [hd]; rfl))
          clear hfin hd e0 hmay
          go_wp2_with fail
          go_returns
          exact hr.out
        | true =>
          obtain rfl : k0 = 2 := e0.trans (by unfold kindN; rw [hd]; rfl)
          cases hm : mayN n.mode 1 with
          | false =>
            have hr := hide (hfin.out 13 0 [] (by rw [hd, hm]; rfl))
            rw [hm] at hmay
            clear hfin hd e0 hm
            go_wp2_with fail
            refine hmay.out.mono ?_
            rintro e wr ⟨rfl, rfl⟩
            clear hmay
            go_wp2_with fail
            go_returns
            exact hr.out
          | true =>
            rw [hm] at hmay
            have hfin := hide (show ∀ E A N, (match L.getLast? with
              | none => ((22 : Int), (0 : Nat), ([] : List UInt8))
              | some p => if p = dot ∨ p = dots then (22, 0, []) else if 32 < p.length then (36, 0, []) else (0, a, p)) = (E, A, N) → RaPost σ dir s.data.toList w (.returned (.tuple #[.int .i64 (A : Nat), .string (baL N), .int .i64 E])) wr from fun E A N h1 => hfin.out E A N (by rw [hd, hm]; exact h1))
            clear hd e0 hm
            by_cases h0 : L.length = 0
            · have hr := hide (hfin.out 22 0 [] (by rw [List.eq_nil_of_length_eq_zero h0]; rfl))
              have hl0 : ((L.length : Int) == 0) = true := by simp [h0]
              have hl1 : (L.length : Int) = 0 := by omega
              clear hfin
              go_wp2_with fail
              refine hmay.out.mono ?_
              rintro e wr ⟨rfl, rfl⟩
              clear hmay
              go_wp2_with fail
              go_returns
              exact hr.out
            · obtain ⟨-, -, hc⟩ := hlvr.at
              obtain ⟨g1, o1, rfl, hc1⟩ := hc.resolve_left (by omega)
              have x1 := hc1 (L.length - 1) (by rw [hll]; omega)
              have hpk := Hps.out (L[L.length - 1]'(by omega)) (List.getElem_mem _)
              have hgl : L.getLast? = some (L[L.length - 1]'(by omega)) := by rw [List.getLast?_eq_getElem?, List.getElem?_eq_getElem]
              rw [hgl] at hfin
              simp only [bas, List.getElem_map] at x1
              obtain ⟨pk, hpk2⟩ : ∃ pk, pk = baL (L[L.length - 1]'(by omega)) := ⟨_, rfl⟩
              have hpl : pk.data.toList = L[L.length - 1]'(by omega) := by rw [hpk2]; rfl
              have hpb : baL pk.data.toList = pk := ba_back pk
              rw [← hpk2] at x1
              rw [← hpl] at hfin hpk
              have hps' : pk.size ≤ 256 := by rw [← ba_len]; exact hpk
              have hl0 : ((L.length : Int) == 0) = false := by simpa using h0
              have hl1 : ¬ ((L.length : Int) = 0) := by omega
              have hl2 : (0 : Int) ≤ (L.length : Int) - 1 := by omega
              have hl3 : (L.length : Int) - 1 < (L.length : Int) := by omega
              have hl4 : ((L.length : Int) - 1).toNat = L.length - 1 := by omega
              clear hpl hgl hpk2 hc1 hc hlvr Hps Hlv
              by_cases h1 : pk.data.toList = dot
              · have hr := hide (hfin.out 22 0 [] (if_pos (.inl h1)))
                have hs0 : pk = ⟨#[46]⟩ := ba_of_data h1
                clear hfin h1 hpb hps' hpk
                subst hs0
                go_wp2_with fail
                refine hmay.out.mono ?_
                rintro e wr ⟨rfl, rfl⟩
                clear hmay
                go_wp2_with fail
                go_returns
                exact hr.out
              have g1' : ¬ pk.toList = [46] := fun e => h1 (by rw [← ByteArray.toList_eq]; exact e)
              have g1'' : (pk.toList == [46]) = false := by simpa using g1'
              by_cases h2 : pk.data.toList = dots
              · have hr := hide (hfin.out 22 0 [] (if_pos (.inr h2)))
                have hs0 : pk = ⟨#[46, 46]⟩ := ba_of_data h2
                clear hfin h1 h2 hpb hps' hpk g1' g1''
                subst hs0
                go_wp2_with fail
                refine hmay.out.mono ?_
                rintro e wr ⟨rfl, rfl⟩
                clear hmay
                go_wp2_with fail
                go_returns
                exact hr.out
              have g2 : ¬ pk.toList = [46, 46] := fun e => h2 (by rw [← ByteArray.toList_eq]; exact e)
              have g2' : (pk.toList == [46, 46]) = false := by simpa using g2
              by_cases h3 : 32 < pk.size
              · have hr := hide (hfin.out 36 0 [] (by show (if pk.data.toList = dot ∨ pk.data.toList = dots then ((22 : Int), (0 : Nat), ([] : List UInt8)) else if 32 < pk.data.toList.length then (36, 0, []) else (0, a, pk.data.toList)) = _; rw [if_neg (fun e => e.elim h1 h2), if_pos (by rw [ba_len]; exact h3)]))
                have h3I : (32 : Int) < (pk.size : Int) := by omega
                clear hfin h1 h2 hpb hpk
                go_wp2_with fail
                refine hmay.out.mono ?_
                rintro e wr ⟨rfl, rfl⟩
                clear hmay
                go_wp2_with fail
                go_returns
                exact hr.out
              · have hr := hfin.out 0 a pk.data.toList (by show (if pk.data.toList = dot ∨ pk.data.toList = dots then ((22 : Int), (0 : Nat), ([] : List UInt8)) else if 32 < pk.data.toList.length then (36, 0, []) else (0, a, pk.data.toList)) = _; rw [if_neg (fun e => e.elim h1 h2), if_neg (by rw [ba_len]; exact h3)])
                rw [hpb] at hr
                have hr2 := hide (show ∀ w', Fr (fun _ => False) wr w' → RaPost σ dir s.data.toList w (.returned (.tuple #[.int .i64 (a : Nat), .string pk, .int .i64 0])) w' from fun w' hf => ⟨hr.1, hr.2.trans hf⟩)
                have h3I : ¬ (32 : Int) < (pk.size : Int) := by omega
                clear hfin h1 h2 hpb hpk hr
                go_wp2_with fail
                refine hmay.out.mono ?_
                rintro e wr ⟨rfl, rfl⟩
                clear hmay
                go_wp2_with fail
                refine region_still (by kernel_rfl) (by kernel_rfl) ?_
                repeat go_big_quiet_step (fail)
                refine wpQuiet_nil ?_
                go_wp2_with fail
                go_returns
                exact hr2.out _ (Fr.refl _ _).drew
  · have hr := hide (hfin.out E 0 [] w (by rw [if_pos hE]) (Fr.refl _ _))
    clear hsok hs256 hfin h HA
    go_enter Tryz.func50, Tryz.ntmps50
    go_wp2_with fail
    refine hbeg.out.mono ?_
    rintro e w ⟨rfl, rfl⟩
    clear hbeg
    go_wp2_with fail
    go_returns
    exact hr.out
end Go.Proofs.YtlhmmiolnbgloaaGreatDoor
