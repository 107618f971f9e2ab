/- The document's variables: Set, Mark. Conditions: each contract's own premises. -/
import Derived.Test.YtcojeojmodjmdaaVarsRefB
namespace Go.Proofs.Ytcojeojmodjmdaa
open Go.RowKit

theorem rput_any (w : World) (r : Nat) (M : KA VR) (args : List ByteArray) (S : Nat → Prop) (h : RvAt w r M args S) (hM : M.length ≤ 64) (hs : KSorted M) (s : ByteArray) (X : VR) :
    Calls Try.prog 36 #[.pointer (some ⟨r, 0, none⟩), .agg #[.string s, .string X.value, .bool X.e, .bool X.r, .bool X.u]] w (PutPost w r (kput s.data.toList X M) args S) := by
  cases hg : kget s.data.toList M with
  | none => exact rput_new w r M args S h hM s X hg
  | some x => exact rput_found w r M args S h hM hs s X (by rw [hg]; rfl)
def RSetPost (w : World) (r : Nat) (M' : KA VR) (args : List ByteArray) (S : Nat → Prop) (ev : Int) (e : Ending) (w' : World) : Prop :=
  e = .returned (.int .i64 ev) ∧ RvAt w' r M' args S ∧ Fr (fun k => k = r) w w'
theorem atX_er (M : KA VR) (s : List UInt8) : (atX M s).e = (getX M s).e ∧ (atX M s).r = (getX M s).r := by
  unfold atX getX; cases kget s M <;> exact ⟨rfl, rfl⟩
set_option maxRecDepth 100000 in
set_option maxHeartbeats 4000000 in
theorem rset_any (w : World) (r : Nat) (M : KA VR) (args : List ByteArray) (S : Nat → Prop) (h : RvAt w r M args S) (hM : M.length ≤ 64) (hS : KSorted M) (s v : ByteArray) (hs : s.size ≤ 9223372036854775807) (hv : v.size ≤ 9223372036854775807) :
    Calls Try.prog 20 #[.pointer (some ⟨r, 0, none⟩), .string s, .string v] w (RSetPost w r (setM M s.data.toList v) args S (setE M s.data.toList v.size)) := by
  have hat := rat_any w r M args S h hM s
  obtain ⟨he, hr⟩ := atX_er M s.data.toList
  have hsame : ∀ ev : Int, setE M s.data.toList v.size = ev → ev ≠ 0 → ∀ w', Fr (fun _ => False) w w' → RSetPost w r (setM M s.data.toList v) args S (setE M s.data.toList v.size) (.returned (.int .i64 ev)) w' := by
    intro ev he hne w' hf
    rw [show setM M s.data.toList v = M by unfold setM; rw [if_neg (by rw [he]; exact hne)], he]
    exact ⟨rfl, h.frame hf (fun _ _ _ e => e), hf.mono (fun _ _ e => e.elim)⟩
  have hput : setE M s.data.toList v.size = 0 → ∀ w' w'', Fr (fun _ => False) w w' → PutPost w' r (kput s.data.toList ⟨v, (getX M s.data.toList).e, (getX M s.data.toList).r, false⟩ M) args S (.returned (.tuple #[])) w'' → RSetPost w r (setM M s.data.toList v) args S (setE M s.data.toList v.size) (.returned (.int .i64 0)) w'' := by
    intro he w' w'' hf hp
    rw [show setM M s.data.toList v = kput s.data.toList ⟨v, (getX M s.data.toList).e, (getX M s.data.toList).r, false⟩ M by unfold setM; rw [if_pos he], he]
    exact ⟨rfl, hp.2.1, (hf.mono (fun _ _ e => e.elim)).trans hp.2.2⟩
  have hE : setE M s.data.toList v.size = if nameB s.data.toList = false then 22 else if (getX M s.data.toList).r = true then 63 else if 65536 < v.size then 66 else if roomB M s.data.toList = false then 64 else 0 := rfl
  generalize hP : RSetPost w r (setM M s.data.toList v) args S (setE M s.data.toList v.size) = P at *
  generalize setE M s.data.toList v.size = E at *
  rw [← he, ← hr] at hput
  rw [← hr] at hE
  have Hsame := hide hsame
  have Hput := hide hput
  have HE := hide hE
  clear hsame hput hE hP he hr
  generalize atX M s.data.toList = X at *
  obtain ⟨xv, xe, xr, xu⟩ := X
  simp only [venc, ba_back] at hat
  go_enter Try.func20, Try.ntmps20
  go_wp2_with fail
  refine hat.mono ?_
  rintro e w1 ⟨rfl, hf1⟩
  have hfa : Fr (fun _ => False) w (w1.alloc (.cells #[.string s, .string xv, .bool xe, .bool xr, .bool xu] 67 (0, 0))) := hf1.alloc _
  clear hat
  go_wp2_with fail
  refine (rname_any s hs _).mono ?_
  rintro e w2 ⟨rfl, rfl⟩
  cases hn : nameB s.data.toList with
  | false =>
    have hfin := hide (Hsame.out 22 (by rw [HE.out, if_pos hn]) (by decide) _ hfa)
    clear hn
    go_wp2_with fail
    first | exact hfin.out | (go_ret; exact hfin.out)
  | true =>
    have Hn := hide hn
    clear hn
    cases xr with
    | true =>
      have hfin := hide (Hsame.out 63 (by rw [HE.out, if_neg (by simp [Hn.out]), if_pos rfl]) (by decide) _ hfa)
      go_wp2_with fail
      first | exact hfin.out | (go_ret; exact hfin.out)
    | false =>
      by_cases hvs : 65536 < (v.size : Int)
      · have hfin := hide (Hsame.out 66 (by rw [HE.out, if_neg (by simp [Hn.out]), if_neg (by simp), if_pos (by omega)]) (by decide) _ hfa)
        go_wp2_with fail
        first | exact hfin.out | (go_ret; exact hfin.out)
      · have ha := h.frame hfa (fun _ _ _ e => e)
        go_wp2_with fail
        refine (rfind_any _ _ _ _ _ ha hM s).mono ?_
        rintro e w2 ⟨rfl, hfd⟩
        obtain ⟨lv, av, hf⟩ := id ha
        obtain ⟨la, lc, rfl, hlc, hnone, hrow⟩ := hf.row
        have c0 : (w1.alloc (.cells #[.string s, .string xv, .bool xe, .bool false, .bool xu] 67 (0, 0))).cell? ⟨r, 0, none⟩ = some (.slice la M.length lc) := by rw [blk_cell hf.hb]; rfl
        have hfz := blk_frozen hf.hb
        have Hput2 := hide (show roomB M s.data.toList = true → ∀ w' w'', Fr (fun _ => False) w w' → PutPost w' r (kput s.data.toList ⟨v, xe, false, false⟩ M) args S (.returned (.tuple #[])) w'' → P (.returned (.int .i64 0)) w'' from fun hr => Hput.out (by rw [HE.out, if_neg (by simp [Hn.out]), if_neg (by simp), if_neg (by omega), if_neg (by simp [hr])]))
        have hfa' : Fr (fun _ => False) w (w1.alloc (.cells #[.string s, .string v, .bool xe, .bool false, .bool false] 67 (0, 0))) := hf1.alloc _
        have ha' := hide (h.frame hfa' (fun _ _ _ e => e))
        have hrp := hide (rput_any _ _ _ _ _ ha'.out hM hS s ⟨v, xe, false, false⟩)
        rcases hfd with ⟨k, hk, rfl, he, hg⟩ | ⟨rfl, hg⟩
        · have hro : roomB M s.data.toList = true := by unfold roomB; rw [hg]; rfl
          clear hrow hg he hk
          go_wp2_with fail
          refine hrp.out.mono ?_
          rintro e w9 hp
          obtain rfl := hp.1
          have hfin := hide (Hput2.out hro _ w9 hfa' hp)
          clear hp
          go_wp2_with fail
          first | exact hfin.out | (go_ret; exact hfin.out)
        · by_cases hl : M.length < 64
          · have hro : roomB M s.data.toList = true := by unfold roomB; simp [hl]
            have hlz : ¬ (64 : Int) ≤ (M.length : Int) := by omega
            clear hrow hg
            go_wp2_with fail
            refine hrp.out.mono ?_
            rintro e w9 hp
            obtain rfl := hp.1
            have hfin := hide (Hput2.out hro _ w9 hfa' hp)
            clear hp
            go_wp2_with fail
            first | exact hfin.out | (go_ret; exact hfin.out)
          · have hro : roomB M s.data.toList = false := by unfold roomB; rw [hg]; simp [hl]
            have hlz : (64 : Int) ≤ (M.length : Int) := by omega
            have hfin := hide (Hsame.out 64 (by rw [HE.out, if_neg (by simp [Hn.out]), if_neg (by simp), if_neg (by omega), if_pos hro]) (by decide) _ hfa)
            clear hrow hg
            go_wp2_with fail
            first | exact hfin.out | (go_ret; exact hfin.out)
end Go.Proofs.Ytcojeojmodjmdaa
