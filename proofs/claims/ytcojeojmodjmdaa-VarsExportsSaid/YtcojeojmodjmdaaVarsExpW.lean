/- The walk of VarsExports: it returns true and leaves old memory as it was. Conditions: what the parameters are. -/
import Derived.Test.YtcojeojmodjmdaaVarsExpL
import Derived.Test.YtcojeojmodjmdaaVarsFixedW
namespace Go.Proofs.Ytcojeojmodjmdaa
open Go.RowKit

structure ExI (W : World) (val : ByteArray) (b ib : Nat) (M : KA VR) (I : KL) (wr : World) : Prop where
  v : ∃ S, VarsAt wr b M [] S ∧ ¬ S ib ∧ ∀ k, S k → W.heap.size ≤ k
  m : SMapAt Try.prog 9 wr ib I
  hi : W.heap.size ≤ ib
  ag : Agree val M I
  fr : Fr (fun _ => False) W wr
def ExRel (W : World) (val : ByteArray) (b ib len gk : Nat) (i : Value) (wr : World) : Prop := ∃ k M I, gk + k = len ∧ i = .int .i64 k ∧ ExI W val b ib M I wr
theorem ExI.len {W : World} {val : ByteArray} {b ib : Nat} {M : KA VR} {I : KL} {wr : World} (h : ExI W val b ib M I wr) : I.length ≤ 64 ∧ KSorted M := by
  obtain ⟨S, ⟨mb, av, hv⟩, _, _⟩ := h.v
  have hs := hv.sorted
  refine ⟨?_, hs⟩
  rw [h.ag.eq hs h.m.sorted]
  have := hv.len
  have h2 := List.length_filter_le (fun p : List UInt8 × VR => p.2.e) M
  unfold expF
  rw [List.length_map]
  omega
/-- One more call on the variables. -/
theorem ExI.step {W : World} {val : ByteArray} {b ib : Nat} {M M' : KA VR} {I I' : KL} {wr w4 w5 : World} {S : Nat → Prop} (h : ExI W val b ib M I wr) (hS : ¬ S ib) (hS2 : ∀ k, S k → W.heap.size ≤ k) (hv : VarsAt w4 b M' [] S) (hf : Fr S wr w4)
    (hm : SMapAt Try.prog 9 w5 ib I') (hf5 : Fr (fun q => q = ib) w4 w5) (ag : Agree val M' I') : ExI W val b ib M' I' w5 :=
  ⟨⟨S, hv.frame hf5 (fun k _ hk e => hS (e ▸ hk)), hS, hS2⟩, hm, h.hi, ag, (h.fr.trans' hf (fun i hi e => by have := hS2 i e; omega)).trans' hf5 (fun i hi e => by have := h.hi; omega)⟩
def lastN (M : KA VR) (k : Nat) : ByteArray := match k with | 0 => ⟨#[]⟩ | k + 1 => ⟨((expN M).getD k []).toArray⟩
def ExRel2 (w : World) (M : KA VR) (gk : Nat) (lv nv i : Value) (wx : World) : Prop := ∃ k : Nat, gk + k = (expN M).length ∧ i = .int .i64 k ∧ nv = .int .i64 k ∧ lv = .string (lastN M k) ∧ w = wx
theorem names_len {w : World} {b : Nat} {M : KA VR} {args : List ByteArray} {S : Nat → Prop} (h : VarsAt w b M args S) : ∀ n ∈ expN M, n.length ≤ 140737488355328 := by
  obtain ⟨mb, av, h⟩ := h
  intro n hn
  obtain ⟨p, hp, rfl⟩ := List.mem_map.1 hn
  exact (h.sz p (List.mem_filter.1 hp).1).1
theorem exp_look (M : KA VR) {k : Nat} (hk : k < (expN M).length) (hM : KSorted M) : kget ((expN M)[k]'hk) (expF M) = some tv := by
  have hm : (expN M)[k]'hk ∈ expN M := List.getElem_mem hk
  obtain ⟨p, hp, e⟩ := List.mem_map.1 hm
  rw [← e]
  exact kget_of_mem (p := (p.1, tv)) (expF_sorted hM) (List.mem_map.2 ⟨p, hp, rfl⟩)
theorem last_lt {M : KA VR} (hM : KSorted M) {k : Nat} (hk : k < (expN M).length) : k = 0 ∨ (Op.bytesLess (⟨((expN M)[k]'hk).toArray⟩ : ByteArray).toList (lastN M k).toList = false ∧ ((⟨((expN M)[k]'hk).toArray⟩ : ByteArray).toList == (lastN M k).toList) = false) := by
  cases k with
  | zero => exact .inl rfl
  | succ j =>
    right
    have hb := List.pairwise_iff_getElem.1 (expN_sorted hM) j (j + 1) (by omega) hk (by omega)
    simp only [lastN, ByteArray.toList_eq, less_before]
    rw [List.getD_eq_getElem?_getD, List.getElem?_eq_getElem (by omega), Option.getD_some]
    constructor
    · cases hc : bytesBefore ((expN M)[j + 1]'hk) ((expN M)[j]'(by omega)) with
      | false => rfl
      | true =>
        have := WideShapes.bytes_trans _ _ _ hb hc
        rw [WideAt.bytes_irrefl] at this
        cases this
    · rw [beq_eq_false_iff_ne]
      intro e
      have e : (expN M)[j + 1]'hk = (expN M)[j]'(by omega) := e
      rw [e, WideAt.bytes_irrefl] at hb
      cases hb
/-- A row of strings with their sizes. -/
def StrRowZ (W : World) (a : Option Addr) (len cap : Nat) : Prop := ∃ l : List ByteArray, l.length ≤ 9223372036854775807 ∧ ArgsV W (fun k => k < W.heap.size) (.slice a len cap) l ∧ ∀ s ∈ l, s.size ≤ 140737488355328
set_option maxRecDepth 100000 in
set_option maxHeartbeats 8000000 in
theorem vexports_walk (a : Option Addr) (len cap : Nat) (val : ByteArray) (W : World) (hr : StrRowZ W a len cap) (hval : val.size ≤ 9223372036854775807) :
    Calls Try.prog 3 #[.slice a len cap, .string val] W (LawPost W) := by
  obtain ⟨l, hlen, hav, hsz⟩ := hr
  obtain ⟨hla, hcap, hcells⟩ := hav.at
  have hzb : ∀ w, (zeroValue 4).run Try.prog w = .ok (.bool false) w := fun w => by kernel_rfl
  go_enter Try.func3, Try.ntmps3
  go_wp2_with fail
  refine (vawake_any _).mono ?_
  rintro e w0 ⟨rfl, hf0⟩
  have hout : LawPost W (.returned (.bool true)) w0 := ⟨rfl, hf0.below (fun _ _ h => h)⟩
  have hout := hide hout
  by_cases c1 : 40 < len
  · go_wp2_with fail
    go_ret
    exact hout.out
  by_cases c2 : 1000 < val.size
  · go_wp2_with fail
    go_ret
    exact hout.out
  clear hout
  have hmm := @run_makeMap Try.prog
  go_wp2_with fail
  refine (vnew_any _).mono ?_
  rintro e w1 ⟨b, rfl, h1, hf1⟩
  have hs0 := hf0.size
  have hs1 := hf1.size
  have hI : ExI W val b w1.heap.size [] [] (w1.alloc (.map #[] 0)) := by
    refine ⟨⟨fun k => w0.heap.size ≤ k ∧ k ≠ w1.heap.size, h1.narrow' ((Fr.refl _ _).alloc _) (fun k hk hs => ⟨hs, by omega⟩) (fun k hk => ⟨by simp at hk; omega, by simp at hk; omega⟩), fun h => h.2 rfl, fun k hk => by omega⟩, SMapAt.made w1, by omega, Agree.start val, (hf0.trans hf1).alloc _⟩
  clear h1 hf0 hf1
  go_wp2_with fail
  go_loopg [28] len (fun gk i wr => ExRel W val b w1.heap.size len gk i wr)
  case atStart => exact ⟨0, _, _, by omega, rfl, hI⟩
  case round =>
    clear hI
    obtain ⟨k, M, I, hgk, rfl, hI⟩ := hrel
    have Hgk := hide hgk
    clear hgk
    by_cases hlt : k < len
    · obtain ⟨g, o, rfl, hrow⟩ := hcells.resolve_left (by omega)
      have c0 := hrow k (by omega)
      have d0 : wr.cell? ⟨g, o + k, none⟩ = some (.string (l[k]'(by omega))) := by rw [World.cell?_of_block (w := W) (hI.fr.block _ (World.block_lt_of_cell? _ _ c0) (fun h => h))]; exact c0
      have hnz := hsz _ (List.getElem_mem (show k < l.length by omega))
      generalize l[k]'(by omega) = nm at d0 hnz
      clear hrow c0 hcells hav hsz
      obtain ⟨S, hv, hSi, hS2⟩ := hI.v
      have hIl := hI.len.1
      have hHi := hI.hi
      go_wp2_with fail
      refine (vset_any _ _ _ _ _ hv nm val hnz hval).mono ?_
      rintro e w4 ⟨rfl, hv4, hf4⟩
      have hm4 := hI.m.frame hf4 hSi
      by_cases he : setE M nm.data.toList val.size = 0
      rotate_left
      · have hM : setM M nm.data.toList val = M := by unfold setM; rw [if_neg he]
        rw [hM] at hv4
        have hI4 : ExI W val b w1.heap.size M I w4 := ⟨⟨S, hv4, hSi, hS2⟩, hm4, hHi, hI.ag, hI.fr.trans' hf4 (fun i hi e => by have := hS2 i e; omega)⟩
        have hI4 := hide hI4
        generalize setE M nm.data.toList val.size = ev at he ⊢
        clear hv4 hf4 hm4 hv
        go_wp2_with fail
        go_roundg (gk - 1)
        case measure => have := Hgk.out; omega
        case rel => exact ⟨k + 1, _, _, by have := Hgk.out; omega, by go_num, hI4.out⟩
      · have hM : setM M nm.data.toList val = kput nm.data.toList ⟨val, (getX M nm.data.toList).e, (getX M nm.data.toList).r, false⟩ M := by unfold setM; rw [if_pos he]
        have hnb : nameB nm.data.toList = true := by
          cases hn : nameB nm.data.toList with
          | true => rfl
          | false => unfold setE at he; rw [if_pos hn] at he; cases he
        have Hnb := hide hnb
        rw [hM] at hv4
        rw [he]
        clear he
        have ag4 := hI.ag.set nm.data.toList
        have hg1 : kget nm.data.toList (kput nm.data.toList ⟨val, (getX M nm.data.toList).e, (getX M nm.data.toList).r, false⟩ M) = some ⟨val, (getX M nm.data.toList).e, (getX M nm.data.toList).r, false⟩ := kget_kput_same _ _ _
        generalize kput nm.data.toList ⟨val, (getX M nm.data.toList).e, (getX M nm.data.toList).r, false⟩ M = M1 at hv4 ag4 hg1
        have hI4 : ExI W val b w1.heap.size M1 I w4 := ⟨⟨S, hv4, hSi, hS2⟩, hm4, hHi, ag4, hI.fr.trans' hf4 (fun i hi e => by have := hS2 i e; omega)⟩
        clear hM hv hnb
        by_cases h2 : k % 2 = 0
        · go_wp2_with fail
          refine (vmark_any _ _ _ _ _ hv4 nm hnz true false).mono ?_
          rintro e w5 ⟨rfl, hv5, hf5⟩
          have hmE : markE M1 nm.data.toList true false = 0 := by unfold markE roomB; rw [if_neg (by simp [Hnb.out]), if_neg (by simp), hg1]; simp
          rw [show markM M1 nm.data.toList true false = kput nm.data.toList (markX (kget nm.data.toList M1) true false) M1 by unfold markM; rw [if_pos ⟨hmE, by simp⟩]] at hv5
          rw [hmE]
          have ag5 := ag4.mark _ hg1
          have hm5 := hm4.frame hf5 hSi
          obtain ⟨w6, hup, hm6, hf6⟩ := hm5.update (t := 26) (e := 4) Try.underlying9 Try.underlying26 (by unfold maxLen; omega) nm (by unfold maxLen; omega) (.bool true)
          have hI6 : ExI W val b w1.heap.size _ _ w6 := hI.step hSi hS2 hv5 (hf4.trans hf5) hm6 hf6 ag5
          clear hmE hv5 hf5 hm5 hm6 hf6 ag5 hg1 ag4 hI4
          by_cases h5 : k % 5 = 4
          · obtain ⟨S6, hv6, hSi6, hS26⟩ := hI6.v
            have hm6' := hI6.m
            have ag6 := hI6.ag
            go_wp2_with fail
            refine (vunset_any _ _ _ _ _ hv6 nm (by omega)).mono ?_
            rintro e w7 ⟨rfl, hv7, hf7⟩
            rw [ag6.unsetM Hnb.out] at hv7
            rw [ag6.unsetE Hnb.out]
            obtain ⟨w8, hdel, hm8, hf8⟩ := (hm6'.frame hf7 hSi6).delete (t := 26) (e := 4) Try.underlying9 Try.underlying26 nm (by unfold maxLen; omega) 0
            have hI8 := hide (hI6.step hSi6 hS26 hv7 hf7 hm8 hf8 (ag6.unset nm.data.toList))
            clear hv7 hf7 hm8 hf8 hv6 ag6 hm6' hI6
            go_wp2_with fail
            go_roundg (gk - 1)
            case measure => have := Hgk.out; omega
            case rel => exact ⟨k + 1, _, _, by have := Hgk.out; omega, by go_num, hI8.out⟩
          · have HI6 := hide hI6
            clear hI6
            go_wp2_with fail
            go_roundg (gk - 1)
            case measure => have := Hgk.out; omega
            case rel => exact ⟨k + 1, _, _, by have := Hgk.out; omega, by go_num, HI6.out⟩
        · clear hv4 hf4 hm4 ag4 hg1 hI
          by_cases h5 : k % 5 = 4
          · obtain ⟨S6, hv6, hSi6, hS26⟩ := hI4.v
            have hm6' := hI4.m
            have ag6 := hI4.ag
            go_wp2_with fail
            refine (vunset_any _ _ _ _ _ hv6 nm (by omega)).mono ?_
            rintro e w7 ⟨rfl, hv7, hf7⟩
            rw [ag6.unsetM Hnb.out] at hv7
            rw [ag6.unsetE Hnb.out]
            obtain ⟨w8, hdel, hm8, hf8⟩ := (hm6'.frame hf7 hSi6).delete (t := 26) (e := 4) Try.underlying9 Try.underlying26 nm (by unfold maxLen; omega) 0
            have hI8 := hide (hI4.step hSi6 hS26 hv7 hf7 hm8 hf8 (ag6.unset nm.data.toList))
            clear hv7 hf7 hm8 hf8 hv6 ag6 hm6' hI4
            go_wp2_with fail
            go_roundg (gk - 1)
            case measure => have := Hgk.out; omega
            case rel => exact ⟨k + 1, _, _, by have := Hgk.out; omega, by go_num, hI8.out⟩
          · have HI6 := hide hI4
            clear hI4
            go_wp2_with fail
            go_roundg (gk - 1)
            case measure => have := Hgk.out; omega
            case rel => exact ⟨k + 1, _, _, by have := Hgk.out; omega, by go_num, HI6.out⟩
    · have hk : k = len := by have := Hgk.out; omega
      subst hk
      clear Hgk
      obtain ⟨S, hv, hSi, hS2⟩ := hI.v
      have HIm := hide hI.m
      have hal := hide hI.ag
      have hks := hide hI.len.2
      have hIl := hI.len.1
      have hfr := hI.fr
      clear hI
      go_wp2_with fail
      refine (env_any _ _ _ _ _ hv).mono ?_
      rintro e w9 ⟨vE, rfl, hown, hf9⟩
      have heq := hal.out.env hks.out
      rw [heq] at hown
      clear heq
      have haE : ArgsV w9 (fun k => wr.heap.size ≤ k) vE ((expN M).map fun n => ((⟨n.toArray⟩ : ByteArray) ++ eqS) ++ val) := own_args hown (by simp) (fun k hk => hk)
      have hIM : I = expF M := hal.out.eq hks.out HIm.out.sorted
      have hm9 := HIm.out.frame hf9 (fun h => h)
      have hfr9 := hfr.trans hf9
      have hnl := hide (names_len hv)
      clear hown hf9 hfr hv hSi hS2 HIm
      obtain ⟨ea, ec, hea⟩ := haE.form
      rw [List.length_map] at hea
      subst hea
      have HE := hide haE.at
      clear haE
      have hIlen : ∀ ty, (Builtin.len_ #[26] ty #[.map (some w1.heap.size)]).run Try.prog w9 = .ok (.int .i64 (expN M).length) w9 := fun ty => by
        rw [hm9.len (e := 4) Try.underlying26, hIM, expN_len]
      have hnn : (expN M).length ≤ 64 := by rw [expN_len, ← hIM]; exact hIl
      obtain ⟨n2, hn2⟩ : ∃ n2, n2 = (expN M).length := ⟨_, rfl⟩
      rw [← hn2] at hIlen hnn
      rw [← hn2]
      have Hn2 := hide hn2
      clear hn2
      go_wp2_with fail
      go_loopg [9, 10, 58] n2 (fun gk lv nv i wx => ExRel2 w9 M gk lv nv i wx)
      case atStart => exact ⟨0, by have := Hn2.out; omega, rfl, rfl, rfl, rfl⟩
      case round =>
        obtain ⟨k2, hgk2, rfl, rfl, rfl, rfl⟩ := hrel
        rw [← Hn2.out] at hgk2
        have Hgk2 := hide hgk2
        clear hgk2
        by_cases hltn : k2 < n2
        · have hlt2 : k2 < (expN M).length := by have := Hn2.out; omega
          obtain ⟨_, hcE, hE⟩ := HE.out
          obtain ⟨g2, o2, rfl, hrow2⟩ := hE.resolve_left (by have := Hn2.out; omega)
          have c0 := hrow2 k2 (by rw [List.length_map]; exact hlt2)
          rw [List.getElem_map] at c0
          have hqn := hnl.out _ (List.getElem_mem hlt2)
          obtain ⟨q, hq⟩ : ∃ q : ByteArray, q = ⟨((expN M)[k2]'hlt2).toArray⟩ := ⟨_, rfl⟩
          have hqs : q.size ≤ 140737488355328 := by rw [hq]; simpa [ByteArray.size] using hqn
          obtain ⟨q1, hq1⟩ : ∃ q1, q1 = q ++ eqS := ⟨_, rfl⟩
          obtain ⟨q2, hq2⟩ : ∃ q2, q2 = q1 ++ val := ⟨_, rfl⟩
          rw [← hq, ← hq1, ← hq2] at c0
          have hq1s : q1.size = q.size + 1 := by rw [hq1, ByteArray.size_append]; rfl
          have hq2s : q2.size = q.size + 1 + val.size := by rw [hq2, ByteArray.size_append, hq1s]
          have hcat1 : (Op.stringOp .add q ⟨#[61]⟩).run Try.prog w9 = .ok (.string q1) w9 := by
            rw [hq1]; exact run_string_add_sum w9 q eqS (by have : eqS.size = 1 := rfl; omega)
          have hcat2 : (Op.stringOp .add q1 val).run Try.prog w9 = .ok (.string q2) w9 := by
            rw [hq2]; exact run_string_add_sum w9 q1 val (by omega)
          have hext : q2.extract 0 q.size = q := by
            rw [hq2, hq1]
            apply ba_of_data
            rw [ba_extract]
            simp [ba_len]
          have hlook := hm9.look (t := 26) (e := 4) false Try.underlying9 Try.underlying26 (hzb w9) q (by unfold maxLen; omega)
          rw [if_neg (by simp), hIM, show q.data.toList = (expN M)[k2]'hlt2 by rw [hq], exp_look _ hlt2 hks.out] at hlook
          simp only [Option.getD_some, tv] at hlook
          have hl1 : k2 = 0 ∨ (Op.bytesLess q.toList (lastN M k2).toList = false ∧ (q.toList == (lastN M k2).toList) = false) := by
            rw [hq]; exact last_lt hks.out hlt2
          have Hq := hide hq
          clear hq1s hq hq1 hq2 hrow2 hqn
          generalize lastN M k2 = lv at hl1 ⊢
          have hnext : ∀ gk', gk' + (k2 + 1) = n2 → ExRel2 w9 M gk' (.string q) (.int .i64 ((k2 : Int) + 1)) (.int .i64 ((k2 : Int) + 1)) w9 := fun gk' h => ⟨k2 + 1, h.trans Hn2.out, by go_num, by go_num, by rw [Hq.out]; simp only [lastN]; rw [List.getD_eq_getElem?_getD, List.getElem?_eq_getElem hlt2]; rfl, rfl⟩
          have Hnext := hide hnext
          clear hnext Hq hnl
          have hlt3 : (k2 : Int) < (n2 : Int) := by omega
          clear hIM hlt2
          rcases Nat.eq_zero_or_pos k2 with hk0 | hk0
          · have hk1 : ¬ (0 : Int) < (k2 : Int) := by omega
            clear hl1 hk0
            go_wp2_with fail
            go_roundg (gk - 1)
            case measure => have := Hgk2.out; omega
            case rel => exact Hnext.out _ (by have := Hgk2.out; omega)
          · obtain ⟨hl2, hl3⟩ := hl1.resolve_left (by omega)
            have hk1 : (0 : Int) < (k2 : Int) := by omega
            clear hl1 hk0
            go_wp2_with fail
            go_roundg (gk - 1)
            case measure => have := Hgk2.out; omega
            case rel => exact Hnext.out _ (by have := Hgk2.out; omega)
        · have hk2 : k2 = n2 := by have := Hgk2.out; omega
          have hfin : LawPost W (.returned (.bool true)) w9 := ⟨rfl, hfr9.below (fun _ _ h => h)⟩
          have hfin := hide hfin
          clear hIM hfr9
          subst hk2
          go_wp2_with fail
          go_ret
          exact hfin.out
end Go.Proofs.Ytcojeojmodjmdaa
