/- shyardref08: FS.find, begin, step. Conditions: each contract's own premises. -/
import Derived.Test.YtlhmmiolnbgloaaGreatDoorFrefB
import Derived.Test.YtlhmmiolnbgloaaGreatDoorFilesKeepB
namespace Go.Proofs.YtlhmmiolnbgloaaGreatDoor
open Go.RowKit

/-- The entry of a name, 0: none. -/
def findN (σ : FSt) (i : Nat) (s : List UInt8) : Nat := (lookS σ i s).getD 0
def entsAt (σ : FSt) (i : Nat) : KA Nat := match σ.nd i with | none => [] | some n => n.ents
theorem findN_ents (σ : FSt) (i : Nat) (s : List UInt8) : findN σ i s = (kget s (entsAt σ i)).getD 0 := by
  unfold findN lookS entsAt
  cases σ.nd i <;> rfl
theorem args_nil' (w : World) (S : Nat → Prop) : ArgsV w S (.slice none 0 0) [] := ⟨none, 0, rfl, Nat.le_refl _, fun _ => rfl, .inl rfl⟩
theorem ints_nil (w : World) (S : Nat → Prop) : IntsV w S (.slice none 0 0) [] := ⟨none, 0, rfl, Nat.le_refl _, fun _ => rfl, .inl rfl⟩
/-- An inode's block of cells, free or not. -/
theorem RfF.node {w : World} {g : Nat} {σ : FSt} {S : Nat → Prop} {rv : Value} {nv iv : Nat → Value} (h : RfF w g σ S rv nv iv) {k : Nat} (hk : k ≤ σ.length) :
    ∃ nb cap, rv = .slice (some ⟨nb, 0, none⟩) (σ.length + 1) cap ∧ nb < w.heap.size ∧ ∃ (c0 c1 c2 c3 c4 : Int) (dt : ByteArray) (na : Option Addr) (nc : Nat) (ia : Option Addr) (ic : Nat),
      nodeR σ nv iv k = [.int .i64 c0, .int .i64 c1, .int .i64 c2, .int .i64 c3, .int .i64 c4, .string dt, .slice na (entsAt σ k).length nc, .slice ia (entsAt σ k).length ic] ∧
      ArgsV w (fun q => S q ∧ q ≠ g ∧ q ≠ nb) (.slice na (entsAt σ k).length nc) (namesB (entsAt σ k)) ∧ IntsV w (fun q => S q ∧ q ≠ g ∧ q ≠ nb) (.slice ia (entsAt σ k).length ic) ((entsAt σ k).map (·.2)) ∧
      w.cell? ⟨nb, k * 8, none⟩ = some (.int .i64 c0) ∧ w.cell? ⟨nb, k * 8 + 1, none⟩ = some (.int .i64 c1) ∧ w.cell? ⟨nb, k * 8 + 2, none⟩ = some (.int .i64 c2) ∧ w.cell? ⟨nb, k * 8 + 3, none⟩ = some (.int .i64 c3) ∧ w.cell? ⟨nb, k * 8 + 4, none⟩ = some (.int .i64 c4) ∧
      w.cell? ⟨nb, k * 8 + 5, none⟩ = some (.string dt) ∧ w.cell? ⟨nb, k * 8 + 6, none⟩ = some (.slice na (entsAt σ k).length nc) ∧ w.cell? ⟨nb, k * 8 + 7, none⟩ = some (.slice ia (entsAt σ k).length ic) ∧
      (∀ n, σ.nd k = some n → c0 = kindN n ∧ c1 = n.mode ∧ c2 = n.links ∧ c3 = n.holds ∧ c4 = n.par ∧ dt = baL n.data) ∧ (σ.nd k = none → c0 = 0 ∧ c2 = 0 ∧ c3 = 0) := by
  obtain ⟨nb, cap, rfl, hcap, hne, hlt, -, hc⟩ := h.row
  have key := hc k hk
  refine ⟨nb, cap, rfl, hlt, ?_⟩
  cases hn : σ.nd k with
  | none =>
    have e : entsAt σ k = [] := by unfold entsAt; rw [hn]
    have er : nodeR σ nv iv k = [.int .i64 0, .int .i64 0, .int .i64 0, .int .i64 0, .int .i64 0, .string ⟨#[]⟩, .slice none 0 0, .slice none 0 0] := by unfold nodeR; rw [hn]
    rw [e]
    rw [er] at key
    exact ⟨0, 0, 0, 0, 0, _, none, 0, none, 0, er, args_nil' _ _, ints_nil _ _, key 0 (by omega), key 1 (by omega), key 2 (by omega), key 3 (by omega), key 4 (by omega), key 5 (by omega), key 6 (by omega), key 7 (by omega), fun n e => (by cases e), fun _ => ⟨rfl, rfl, rfl⟩⟩
  | some n =>
    have e : entsAt σ k = n.ents := by unfold entsAt; rw [hn]
    have er : nodeR σ nv iv k = [.int .i64 (kindN n), .int .i64 n.mode, .int .i64 n.links, .int .i64 n.holds, .int .i64 n.par, .string (baL n.data), nv k, iv k] := by unfold nodeR; rw [hn]
    rw [e]
    have h1 := h.nm k n hn
    have h2 := h.im k n hn
    obtain ⟨na, nc, h3⟩ := h1.form
    obtain ⟨ia, ic, h4⟩ := h2.form
    rw [h3] at h1
    rw [h4] at h2
    simp only [namesB, List.length_map] at h1 h2 h3 h4
    rw [er] at key
    rw [h3, h4] at er key
    have hs : ∀ q, (S q ∧ q ≠ g ∧ (Value.slice (some ⟨nb, 0, none⟩) (σ.length + 1) cap).ownBlock ≠ some q) → S q ∧ q ≠ g ∧ q ≠ nb := fun q hq => ⟨hq.1, hq.2.1, fun e => hq.2.2 (by rw [e]; rfl)⟩
    exact ⟨_, _, _, _, _, _, na, nc, ia, ic, er, h1.mono (fun q _ hq => hs q hq), h2.mono (fun q _ hq => hs q hq), key 0 (by omega), key 1 (by omega), key 2 (by omega), key 3 (by omega), key 4 (by omega), key 5 (by omega), key 6 (by omega), key 7 (by omega), fun m e => by cases e; exact ⟨rfl, rfl, rfl, rfl, rfl, rfl⟩, fun e => (by cases e)⟩
theorem kget_first {α : Type} {s : List UInt8} : ∀ {M : KA α} {k : Nat} (hk : k < M.length), (∀ j (hj : j < M.length), j < k → M[j].1 ≠ s) → M[k].1 = s → kget s M = some M[k].2
  | p :: r, 0, _, _, he => by rw [kget_cons, if_pos (by simpa using he)]; rfl
  | p :: r, k + 1, hk, hn, he => by
    rw [kget_cons, if_neg (fun e => hn 0 (by simp) (by omega) (by simpa using e))]
    exact kget_first (M := r) (by simpa using hk) (fun j hj hjk => hn (j + 1) (by simpa using hj) (by omega)) he
def FindRel (L : KA Nat) (s : List UInt8) (w : World) (gk : Nat) (i : Value) (wr : World) : Prop := ∃ k, gk + k = L.length ∧ i = .int .i64 k ∧ (∀ j (hj : j < L.length), j < k → L[j].1 ≠ s) ∧ w = wr
set_option maxRecDepth 100000 in
set_option maxHeartbeats 2000000 in
theorem rfind_any (w : World) (g : Nat) (σ : FSt) (S : Nat → Prop) (h : RfAt w g σ S) (_hL : σ.length ≤ 1000000) (i : Nat) (hi : i ≤ σ.length) (hE : (entsAt σ i).length ≤ 1000000000000) (s : ByteArray) :
    Calls Tryz.prog 52 #[.pointer (some ⟨g, 0, none⟩), .int .i64 i, .string s] w fun e w' => e = .returned (.int .i64 (findN σ i s.data.toList)) ∧ Fr (fun _ => False) w w' := by
  obtain ⟨rv, nv, iv, hF⟩ := h
  have c0 : w.cell? ⟨g, 0, none⟩ = some rv := by rw [blk_cell hF.hb]; rfl
  obtain ⟨nb, cap, rfl, hnb, k0, k1, k2, k3, k4, dt, na, nc, ia, ic, -, hA, hI, q0, q1, q2, q3, q4, q5, q6, q7, -, -⟩ := hF.node hi
  obtain ⟨res, hres⟩ : ∃ res, res = findN σ i s.data.toList := ⟨_, rfl⟩
  rw [← hres]
  have Hres := hide (hres.trans (findN_ents σ i s.data.toList))
  clear hres
  have hiI : (i : Int) < (((σ.length + 1 : Nat)) : Int) := by omega
  have hi0 : (0 : Int) ≤ (i : Int) := by omega
  obtain ⟨w1, hw1⟩ : ∃ w1, w1 = w.alloc (.cells #[.int .i64 k0, .int .i64 k1, .int .i64 k2, .int .i64 k3, .int .i64 k4, .string dt, .slice na (entsAt σ i).length nc, .slice ia (entsAt σ i).length ic] 82 (0, 0)) := ⟨_, rfl⟩
  obtain ⟨bb, hbb⟩ : ∃ bb, bb = w.heap.size := ⟨_, rfl⟩
  have hf1 : Fr (fun _ => False) w w1 := by rw [hw1]; exact (Fr.refl _ _).alloc _
  have hb1 : w1.heap[bb]? = some (.cells #[.int .i64 k0, .int .i64 k1, .int .i64 k2, .int .i64 k3, .int .i64 k4, .string dt, .slice na (entsAt σ i).length nc, .slice ia (entsAt σ i).length ic] 82 (0, 0)) := by rw [hw1, hbb]; exact blk_new _ _
  have HA := hide (hA.frame hf1 (fun _ _ _ e => e))
  have HI := hide (hI.frame hf1 (fun _ _ _ e => e))
  have r6 : w1.cell? ⟨bb, 6, none⟩ = some (.slice na (entsAt σ i).length nc) := by rw [blk_cell hb1]; rfl
  have r7 : w1.cell? ⟨bb, 7, none⟩ = some (.slice ia (entsAt σ i).length ic) := by rw [blk_cell hb1]; rfl
  have Hf1 := hide hf1
  generalize entsAt σ i = L at *
  clear hF hA hI hf1 hb1
  go_enter Tryz.func52, Tryz.ntmps52
  go_upto_region 2 with (fail)
  rw [← hw1, ← hbb]
  clear hw1 hbb q0 q1 q2 q3 q4 q5 q6 q7 c0
  go_wp2_with fail
  go_loopg [8] L.length (fun gk i wr => FindRel L s.data.toList w1 gk i wr)
  case atStart => exact ⟨0, by omega, rfl, fun j _ h => absurd h (Nat.not_lt_zero j), rfl⟩
  case round =>
    obtain ⟨k, hgk, rfl, hno, rfl⟩ := hrel
    have Hgk := hide hgk
    have Hno := hide hno
    clear hgk hno
    by_cases hlt : k < L.length
    · obtain ⟨-, -, hA2⟩ := HA.out.at
      obtain ⟨g1, o1, rfl, hc1⟩ := hA2.resolve_left (by omega)
      obtain ⟨-, -, hI2⟩ := HI.out.at
      obtain ⟨g2, o2, rfl, hc2⟩ := hI2.resolve_left (by omega)
      have x1 := hc1 k (by unfold namesB; rw [List.length_map]; exact hlt)
      have x2 := hc2 k (by rw [List.length_map]; exact hlt)
      simp only [namesB, List.getElem_map] at x1 x2
      have hkI : (k : Int) < (L.length : Int) := by omega
      have hk0 : (0 : Int) ≤ (k : Int) := by omega
      by_cases he : L[k].1 = s.data.toList
      · have hr : (kget s.data.toList L).getD 0 = L[k].2 := by rw [kget_first hlt Hno.out he]; rfl
        have hse : (⟨L[k].1.toArray⟩ : ByteArray) = s := ba_of_data he
        have hr := Hres.out.trans hr
        rw [hse] at x1
        rw [← hr] at x2
        clear hr Hres
        clear hc1 hc2 hA2 hI2 hse he
        go_wp2_with fail
        go_returns
        exact ⟨rfl, Hf1.out⟩
      · have hse : ¬ (⟨L[k].1.toArray⟩ : ByteArray) = s := fun e => he (by rw [← e])
        have hb := ba_bne hse
        have hnext := hide (show FindRel L s.data.toList w1 (gk - 1) (.int .i64 ((k : Int) + 1)) w1 from ⟨k + 1, by have := Hgk.out; omega, by go_num, fun j hj hjk => by
          by_cases e : j < k
          · exact Hno.out j hj e
          · obtain rfl : j = k := by omega
            exact he, rfl⟩)
        clear hc1 hc2 hA2 hI2 x2 he
        generalize (⟨L[k].1.toArray⟩ : ByteArray) = t at *
        go_wp2_with fail
        go_roundg (gk - 1)
        case measure => have := Hgk.out; omega
        case rel => exact hnext.out
    · have hke : k = L.length := by have := Hgk.out; omega
      have hkI : ¬ (k : Int) < (L.length : Int) := by omega
      have hr : (kget s.data.toList L).getD 0 = 0 := by
        rw [kget_of_none fun p hp => by
          obtain ⟨j, hj, rfl⟩ := List.getElem_of_mem hp
          exact Hno.out j hj (by omega)]
        rfl
      have hr := Hres.out.trans hr
      clear Hres
      subst hr
      go_wp2_with fail
      go_returns
      exact ⟨rfl, Hf1.out⟩
end Go.Proofs.YtlhmmiolnbgloaaGreatDoor

/- shyardref08: FS.begin, step. Conditions: each contract's own premises. -/
namespace Go.Proofs.YtlhmmiolnbgloaaGreatDoor
open Go.RowKit

def RbegPost (σ : FSt) (dir : Int) (s : List UInt8) (w : World) (e : Ending) (w' : World) : Prop := e = .returned (.tuple #[.int .i64 ((startE σ dir s).2 : Nat), .int .i64 (startE σ dir s).1]) ∧ w' = w
set_option maxRecDepth 100000 in
set_option maxHeartbeats 1000000 in
theorem rbegin_any (w : World) (g : Nat) (σ : FSt) (S : Nat → Prop) (h : RfAt w g σ S) (hL : σ.length ≤ 1000000) (dir : Int) (hi : -9223372036854775808 ≤ dir ∧ dir ≤ 9223372036854775807) (s : ByteArray) (hs : s.size ≤ 9223372036854775807) :
    Calls Tryz.prog 73 #[.pointer (some ⟨g, 0, none⟩), .int .i64 dir, .string s] w (RbegPost σ dir s.data.toList w) := by
  have hdir := hide (rdir_any w g σ S h hL dir hi)
  have hres := hide (show ∀ E A, startE σ dir s.data.toList = (E, A) → RbegPost σ dir s.data.toList w (.returned (.tuple #[.int .i64 (A : Nat), .int .i64 E])) w from fun E A e => ⟨by rw [e], rfl⟩)
  cases hn : σ.ndI dir with
  | none =>
    rw [show dirI σ dir = false by unfold dirI; rw [hn]] at hdir
    have hr := hide (hres.out 9 0 (by unfold startE; rw [hn]))
    clear hres hn h
    go_enter Tryz.func73, Tryz.ntmps73
    go_wp2_with fail
    refine hdir.out.mono ?_
    rintro e w1 ⟨rfl, rfl⟩
    clear hdir
    go_wp2_with fail
    go_returns
    exact hr.out
  | some n =>
    cases hd : n.d with
    | false =>
      rw [show dirI σ dir = false by unfold dirI; rw [hn]; exact hd] at hdir
      have hr := hide (hres.out 9 0 (by unfold startE; rw [hn]; simp [hd]))
      clear hres hn h hd
      go_enter Tryz.func73, Tryz.ntmps73
      go_wp2_with fail
      refine hdir.out.mono ?_
      rintro e w1 ⟨rfl, rfl⟩
      clear hdir
      go_wp2_with fail
      go_returns
      exact hr.out
    | true =>
      rw [show dirI σ dir = true by unfold dirI; rw [hn]; exact hd] at hdir
      obtain ⟨k, rfl, hk⟩ := ndI_some hn
      have hst : startE σ k s.data.toList = if s.data.toList = [] then (2, 0) else if 256 < s.data.toList.length then (36, 0) else (0, if s.data.toList.head? = some slashB then 1 else k) := by
        unfold startE
        rw [hn]
        simp [hd]
      by_cases h0 : s.data.toList = []
      · have hr := hide (hres.out 2 0 (by rw [hst, if_pos h0]))
        have hs0 : s = ⟨#[]⟩ := ba_of_data h0
        clear hres hn h hd hst h0 hk
        subst hs0
        go_enter Tryz.func73, Tryz.ntmps73
        go_wp2_with fail
        refine hdir.out.mono ?_
        rintro e w1 ⟨rfl, rfl⟩
        clear hdir
        go_wp2_with fail
        go_returns
        exact hr.out
      have h1 := ba_nonempty h0
      rw [if_neg h0] at hst
      by_cases h2 : 256 < s.size
      · have hr := hide (hres.out 36 0 (by rw [hst, if_pos (by rw [ba_len]; exact h2)]))
        have h2I : (256 : Int) < (s.size : Int) := by omega
        clear hres hn h hd hst hk h0
        go_enter Tryz.func73, Tryz.ntmps73
        go_wp2_with fail
        refine hdir.out.mono ?_
        rintro e w1 ⟨rfl, rfl⟩
        clear hdir
        go_wp2_with fail
        go_returns
        exact hr.out
      rw [if_neg (by rw [ba_len]; exact h2)] at hst
      have h2I : ¬ (256 : Int) < (s.size : Int) := by omega
      have hpos : 0 < s.size := by rw [← ba_len]; exact List.length_pos_iff.2 h0
      have hhd : s.data.toList.head? = some (s[0]'hpos) := by
        rw [List.head?_eq_getElem?, List.getElem?_eq_getElem (by rw [ba_len]; exact hpos)]
        rfl
      rw [hhd] at hst
      by_cases h3 : (s[0]'hpos) = slashB
      · have hr := hide (hres.out 0 1 (by rw [hst, if_pos (by rw [h3])]))
        have h3I : (((s[0]'hpos).toNat : Int) == 47) = true := by rw [h3]; rfl
        have hp0 : (0 : Int) < (s.size : Int) := by omega
        clear hres hn h hd hst hk h0 hhd h3
        go_enter Tryz.func73, Tryz.ntmps73
        go_wp2_with fail
        refine hdir.out.mono ?_
        rintro e w1 ⟨rfl, rfl⟩
        clear hdir
        go_wp2_with fail
        go_returns
        exact hr.out
      · have hr := hide (hres.out 0 k (by rw [hst, if_neg (fun e => h3 (Option.some.inj e))]))
        have h3I : (((s[0]'hpos).toNat : Int) == 47) = false := by
          cases hc : (((s[0]'hpos).toNat : Int) == 47) with
          | false => rfl
          | true =>
            have h9 : ((s[0]'hpos).toNat : Int) = 47 := by simpa using hc
            exact absurd (UInt8.toNat_inj.1 (show (s[0]'hpos).toNat = slashB.toNat by show _ = 47; omega)) h3
        have hp0 : (0 : Int) < (s.size : Int) := by omega
        clear hres hn h hd hst hk h0 hhd h3
        go_enter Tryz.func73, Tryz.ntmps73
        go_wp2_with fail
        refine hdir.out.mono ?_
        rintro e w1 ⟨rfl, rfl⟩
        clear hdir
        go_wp2_with fail
        go_returns
        exact hr.out
def RstepPost (σ : FSt) (a : Nat) (p : List UInt8) (w : World) (e : Ending) (w' : World) : Prop := e = .returned (.tuple #[.int .i64 (if (stepS σ a p).1 = 0 then ((stepS σ a p).2 : Int) else 0), .int .i64 (stepS σ a p).1]) ∧ Fr (fun _ => False) w w'
set_option maxRecDepth 100000 in
set_option maxHeartbeats 4000000 in
theorem rstep_any (w : World) (g : Nat) (σ : FSt) (S : Nat → Prop) (h : RfAt w g σ S) (hV : Live σ) (hM : AllM σ) (hC : CapB σ) (a : Nat) (ha : a ≤ σ.length) (s : ByteArray) (hs : s.size ≤ 9223372036854775807) :
    Calls Tryz.prog 75 #[.pointer (some ⟨g, 0, none⟩), .int .i64 a, .string s] w (RstepPost σ a s.data.toList w) := by
  have hlen := hV.len
  have hEl : (entsAt σ a).length ≤ 1000000000000 := by
    unfold entsAt
    cases hn : σ.nd a with
    | none => exact Nat.zero_le _
    | some n => exact (hC a n hn).2.2
  have hfin := hide (show ∀ E A w', stepS σ a s.data.toList = (E, A) → Fr (fun _ => False) w w' → RstepPost σ a s.data.toList w (.returned (.tuple #[.int .i64 (if E = 0 then (A : Int) else 0), .int .i64 E])) w' from fun E A w' h1 h2 => ⟨by rw [h1], h2⟩)
  obtain ⟨rv, nv, iv, hF⟩ := h
  have c0 : w.cell? ⟨g, 0, none⟩ = some rv := by rw [blk_cell hF.hb]; rfl
  obtain ⟨nb, cap, rfl, hnb, k0, k1, k2, k3, k4, dt, na, nc, ia, ic, -, -, -, q0, q1, q2, q3, q4, q5, q6, q7, hsome, hnone⟩ := hF.node ha
  have haI : (a : Int) < (((σ.length + 1 : Nat)) : Int) := by omega
  have ha0 : (0 : Int) ≤ (a : Int) := by omega
  obtain ⟨w1, hw1⟩ : ∃ w1, w1 = w.alloc (.cells #[.int .i64 k0, .int .i64 k1, .int .i64 k2, .int .i64 k3, .int .i64 k4, .string dt, .slice na (entsAt σ a).length nc, .slice ia (entsAt σ a).length ic] 82 (0, 0)) := ⟨_, rfl⟩
  obtain ⟨bb, hbb⟩ : ∃ bb, bb = w.heap.size := ⟨_, rfl⟩
  have hf1 : Fr (fun _ => False) w w1 := by rw [hw1]; exact (Fr.refl _ _).alloc _
  have hb1 : w1.heap[bb]? = some (.cells #[.int .i64 k0, .int .i64 k1, .int .i64 k2, .int .i64 k3, .int .i64 k4, .string dt, .slice na (entsAt σ a).length nc, .slice ia (entsAt σ a).length ic] 82 (0, 0)) := by rw [hw1, hbb]; exact blk_new _ _
  have hA1 : RfAt w1 g σ S := RfAt.frame ⟨_, _, _, hF⟩ hf1 (fun _ _ _ e => e)
  have hmay := hide (rmay_any w1 g σ S hA1 (by omega) hM a 1 (by omega) (by decide))
  have r0 : w1.cell? ⟨bb, 0, none⟩ = some (.int .i64 k0) := by rw [blk_cell hb1]; rfl
  have r2 : w1.cell? ⟨bb, 2, none⟩ = some (.int .i64 k2) := by rw [blk_cell hb1]; rfl
  have r4 : w1.cell? ⟨bb, 4, none⟩ = some (.int .i64 k4) := by rw [blk_cell hb1]; rfl
  have Hf1 := hide hf1
  have HA1 := hide hA1
  clear hF hb1 hf1 hA1
  cases hn : σ.nd a with
  | none =>
    obtain ⟨rfl, -, -⟩ := hnone hn
    have hr := hide (hfin.out 20 a w1 (by unfold stepS; rw [hn]) Hf1.out)
    clear hfin hn hsome hnone hmay HA1
    go_enter Tryz.func75, Tryz.ntmps75
    go_upto_region 2 with (fail)
    rw [← hw1, ← hbb]
    clear hw1 hbb q0 q1 q2 q3 q4 q5 q6 q7 c0
    go_wp2_with fail
    go_returns
    exact hr.out
  | some n =>
    obtain ⟨e0, -, rfl, -, rfl, -⟩ := hsome n hn
    have hst : stepS σ a s.data.toList = stepE n a s.data.toList := by unfold stepS; rw [hn]
    rw [hst] at hfin
    unfold stepE hereE at hfin
    rw [show mayR σ a 1 = mayN n.mode 1 by unfold mayR; rw [ndI_cast, hn]; rfl] at hmay
    clear hsome hnone
    cases hd : n.d with
    | false =>
      have hr := hide (hfin.out 20 a w1 (by rw [hd]; rfl) Hf1.out)
      obtain rfl : k0 = 1 := e0.trans (by unfold kindN; rw [hd]; rfl)
      clear hfin hn hmay HA1 hst e0
      go_enter Tryz.func75, Tryz.ntmps75
      go_upto_region 2 with (fail)
      rw [← hw1, ← hbb]
      clear hw1 hbb q0 q1 q2 q3 q4 q5 q6 q7 c0
      go_wp2_with fail
      go_returns
      exact hr.out
    | true =>
      obtain rfl : k0 = 2 := e0.trans (by unfold kindN; rw [hd]; rfl)
      cases hm : mayN n.mode 1 with
      | false =>
        have hr := hide (hfin.out 13 a w1 (by rw [hd, hm]; rfl) Hf1.out)
        rw [hm] at hmay
        clear hfin hn HA1 hst hm hd e0
        go_enter Tryz.func75, Tryz.ntmps75
        go_upto_region 2 with (fail)
        rw [← hw1, ← hbb]
        clear hw1 hbb q0 q1 q2 q3 q4 q5 q6 q7 c0
        go_wp2_with fail
        refine hmay.out.mono ?_
        rintro e w2 ⟨rfl, rfl⟩
        clear hmay
        go_wp2_with fail
        go_returns
        exact hr.out
      | true =>
        rw [hm] at hmay
        have hfin := hide (show ∀ E A w', (if s.data.toList = dot then ((0 : Int), a) else if s.data.toList = dots then (if n.links = 0 then (2, a) else (0, n.par)) else if 32 < s.data.toList.length then (36, a) else leadE a (kget s.data.toList n.ents)) = (E, A) → Fr (fun _ => False) w w' → RstepPost σ a s.data.toList w (.returned (.tuple #[.int .i64 (if E = 0 then (A : Int) else 0), .int .i64 E])) w' from fun E A w' h1 h2 => hfin.out E A w' (by rw [hd, hm]; exact h1) h2)
        clear hm hst e0
        by_cases h1 : s.data.toList = dot
        · have hr := hide (hfin.out 0 a w1 (by rw [if_pos h1]) Hf1.out)
          have hs0 : s = ⟨#[46]⟩ := ba_of_data h1
          clear hfin HA1 h1 hn
          subst hs0
          go_enter Tryz.func75, Tryz.ntmps75
          go_upto_region 2 with (fail)
          rw [← hw1, ← hbb]
          clear hw1 hbb q0 q1 q2 q3 q4 q5 q6 q7 c0
          go_wp2_with fail
          refine hmay.out.mono ?_
          rintro e w2 ⟨rfl, rfl⟩
          clear hmay
          go_wp2_with fail
          go_returns
          exact hr.out
        have g1 : ¬ s.toList = [46] := fun e => h1 (by rw [← ByteArray.toList_eq]; exact e)
        have g1' : (s.toList == [46]) = false := by simpa using g1
        by_cases h2 : s.data.toList = dots
        · have hs0 : s = ⟨#[46, 46]⟩ := ba_of_data h2
          by_cases hl : n.links = 0
          · have hr := hide (hfin.out 2 a w1 (by rw [if_neg h1, if_pos h2, if_pos hl]) Hf1.out)
            rw [show (n.links : Int) = 0 by omega] at r2 q2 hw1
            clear hfin HA1 h1 h2 hn g1 g1'
            subst hs0
            go_enter Tryz.func75, Tryz.ntmps75
            go_upto_region 2 with (fail)
            rw [← hw1, ← hbb]
            clear hw1 hbb q0 q1 q2 q3 q4 q5 q6 q7 c0
            go_wp2_with fail
            refine hmay.out.mono ?_
            rintro e w2 ⟨rfl, rfl⟩
            clear hmay
            go_wp2_with fail
            go_returns
            exact hr.out
          · have hr := hide (hfin.out 0 n.par w1 (by rw [if_neg h1, if_pos h2, if_neg hl]) Hf1.out)
            have hlI : ¬ ((n.links : Int) = 0) := by omega
            clear hfin HA1 h1 h2 hn g1 g1'
            subst hs0
            go_enter Tryz.func75, Tryz.ntmps75
            go_upto_region 2 with (fail)
            rw [← hw1, ← hbb]
            clear hw1 hbb q0 q1 q2 q3 q4 q5 q6 q7 c0
            go_wp2_with fail
            refine hmay.out.mono ?_
            rintro e w2 ⟨rfl, rfl⟩
            clear hmay
            go_wp2_with fail
            go_returns
            exact hr.out
        have g2 : ¬ s.toList = [46, 46] := fun e => h2 (by rw [← ByteArray.toList_eq]; exact e)
        have g2' : (s.toList == [46, 46]) = false := by simpa using g2
        by_cases h3 : 32 < s.size
        · have hr := hide (hfin.out 36 a w1 (by rw [if_neg h1, if_neg h2, if_pos (by rw [ba_len]; exact h3)]) Hf1.out)
          have h3I : (32 : Int) < (s.size : Int) := by omega
          clear hfin HA1 h1 h2 hn
          go_enter Tryz.func75, Tryz.ntmps75
          go_upto_region 2 with (fail)
          rw [← hw1, ← hbb]
          clear hw1 hbb q0 q1 q2 q3 q4 q5 q6 q7 c0
          go_wp2_with fail
          refine hmay.out.mono ?_
          rintro e w2 ⟨rfl, rfl⟩
          clear hmay
          go_wp2_with fail
          go_returns
          exact hr.out
        have h3I : ¬ (32 : Int) < (s.size : Int) := by omega
        have hfind := hide (rfind_any w1 g σ S HA1.out (by omega) a ha hEl s)
        have hfE : findN σ a s.data.toList = (kget s.data.toList n.ents).getD 0 := by rw [findN_ents]; unfold entsAt; rw [hn]
        rw [hfE] at hfind
        cases hk : kget s.data.toList n.ents with
        | none =>
          rw [hk] at hfind
          have hr := hide (fun w' hf => hfin.out 2 a w' (by rw [if_neg h1, if_neg h2, if_neg (by rw [ba_len]; exact h3), hk]; rfl) (Hf1.out.trans hf))
          clear hfin HA1 h1 h2 hn hfE hk
          go_enter Tryz.func75, Tryz.ntmps75
          go_upto_region 2 with (fail)
          rw [← hw1, ← hbb]
          clear hw1 hbb q0 q1 q2 q3 q4 q5 q6 q7 c0
          go_wp2_with fail
          refine hmay.out.mono ?_
          rintro e w2 ⟨rfl, rfl⟩
          clear hmay
          go_wp2_with fail
          refine hfind.out.mono ?_
          rintro e w3 ⟨rfl, hf3⟩
          have hr := hide (hr.out w3 hf3)
          clear hfind hf3
          go_wp2_with fail
          go_returns
          exact hr.out
        | some k =>
          rw [hk] at hfind
          have hk0 : k ≠ 0 := fun e => by
            have := hV.ents a n hn _ (kget_mem hk)
            rw [e] at this
            simp [FSt.nd] at this
          have hkI : ¬ ((k : Int) = 0) := by omega
          have hr := hide (fun w' hf => hfin.out 0 k w' (by rw [if_neg h1, if_neg h2, if_neg (by rw [ba_len]; exact h3), hk]; rfl) (Hf1.out.trans hf))
          simp only [Option.getD_some] at hfind
          clear hfin HA1 h1 h2 hn hfE hk hk0
          go_enter Tryz.func75, Tryz.ntmps75
          go_upto_region 2 with (fail)
          rw [← hw1, ← hbb]
          clear hw1 hbb q0 q1 q2 q3 q4 q5 q6 q7 c0
          go_wp2_with fail
          refine hmay.out.mono ?_
          rintro e w2 ⟨rfl, rfl⟩
          clear hmay
          go_wp2_with fail
          refine hfind.out.mono ?_
          rintro e w3 ⟨rfl, hf3⟩
          have hr := hide (hr.out w3 hf3)
          clear hfind hf3
          go_wp2_with fail
          go_returns
          exact hr.out
end Go.Proofs.YtlhmmiolnbgloaaGreatDoor
