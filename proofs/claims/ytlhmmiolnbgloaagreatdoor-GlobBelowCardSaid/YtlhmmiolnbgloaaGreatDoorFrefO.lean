/- shyardref08.FS.make. Conditions: the contract's own premises. UNDER WAY. -/
import Derived.Test.YtlhmmiolnbgloaaGreatDoorFrefNN
namespace Go.Proofs.YtlhmmiolnbgloaaGreatDoor
open Go.RowKit

theorem find_look {σ : FSt} (hV : Live σ) (a : Nat) (nm : List UInt8) : findN σ a nm = 0 ↔ lookS σ a nm = none := by
  unfold findN
  cases hl : lookS σ a nm with
  | none => simp
  | some k =>
    have : (σ.nd k).isSome = true := by
      unfold lookS at hl
      cases hn : σ.nd a with
      | none => rw [hn] at hl; cases hl
      | some n =>
        rw [hn] at hl
        exact hV.ents a n hn _ (kget_mem hl)
    simp
    rintro rfl
    cases this
theorem Tryz.infoNode : (Tryz.prog.info? 82).map (fun i => (i.zero, i.size, i.bytes)) = some (some (.agg #[.int .i64 0, .int .i64 0, .int .i64 0, .int .i64 0, .int .i64 0, .string ⟨#[]⟩, .slice none 0 0, .slice none 0 0]), 8, 104) := by kernel_rfl
theorem RfF.one {w : World} {g : Nat} {σ : FSt} {S : Nat → Prop} {rv : Value} {nv iv : Nat → Value} (h : RfF w g σ S rv nv iv) : ∀ u ∈ nodesR σ nv iv, u.oneCell' = true := by
  intro u hu
  unfold nodesR rowsOf at hu
  obtain ⟨l, hl, hu⟩ := List.mem_flatten.1 hu
  obtain ⟨k, hk, rfl⟩ := List.mem_map.1 hl
  have hk2 : k ≤ σ.length := by have := List.mem_range.1 hk; omega
  obtain ⟨nb, cap, -, -, k0, k1, k2, k3, k4, dt, na, nc, ia, ic, hnode, -⟩ := h.node hk2
  rw [hnode] at hu
  simp only [List.mem_cons, List.not_mem_nil, or_false] at hu
  rcases hu with rfl | rfl | rfl | rfl | rfl | rfl | rfl | rfl <;> rfl
/-- The new inode stored at the free number. -/
theorem make_end {w : World} {g : Nat} {σ τ : FSt} {S : Nat → Prop} {nb cap : Nat} {nv iv : Nat → Value} {n6 : Nat} (h : RfF w g τ S (.slice (some ⟨nb, 0, none⟩) n6 cap) nv iv) (hn6 : n6 = τ.length + 1) (hτ : ∀ j, τ.nd j = σ.nd j) {k : Nat} (hk : σ.free = k) (hle : k ≤ τ.length) (d : Bool) (m : Int) (a : Nat) (hl : (σ.add (newNd d m a)).length = τ.length) (kd : Int) (hkd : kd = if d then 2 else 1) :
    RfAt (w.setCells nb (k * 8) [.int .i64 kd, .int .i64 (bits .and .i64 m 511), .int .i64 1, .int .i64 0, .int .i64 a, .string ⟨#[]⟩, .slice none 0 0, .slice none 0 0]) g (σ.add (newNd d m a)) S ∧ Fr S w (w.setCells nb (k * 8) [.int .i64 kd, .int .i64 (bits .and .i64 m 511), .int .i64 1, .int .i64 0, .int .i64 a, .string ⟨#[]⟩, .slice none 0 0, .slice none 0 0]) ∧ w.there nb (k * 8) 8 := by
  subst hk
  subst hkd
  subst hn6
  have hadd := h.addAt hτ (n := newNd d m a) rfl hl hle
  rw [modeN_eq, set8_eq]
  exact ⟨⟨_, _, _, hadd⟩, (set8_fr _ _ _ _ _ _ _ _ _ _ _).mono (fun q _ e => e ▸ (h.ownr nb rfl).1), h.there hle⟩
def MkRel (σ : FSt) (w : World) (gk : Nat) (i : Value) (wr : World) : Prop := ∃ k, gk + k = σ.length + 1 ∧ 1 ≤ k ∧ i = .int .i64 k ∧ (∀ j, 1 ≤ j → j < k → (σ.nd j).isSome = true) ∧ w = wr
def RmkPost (σ : FSt) (g : Nat) (S : Nat → Prop) (dir : Int) (s : List UInt8) (d : Bool) (m : Int) (w : World) (e : Ending) (w' : World) : Prop :=
  e = .returned (.tuple #[.int .i64 (if addE σ dir s d = 0 then (σ.free : Int) else 0), .int .i64 (addE σ dir s d)]) ∧ RfAt w' g (makeR σ dir s d m).2 S ∧ Fr S w w'
set_option maxRecDepth 100000 in
set_option maxHeartbeats 4000000 in
theorem rmake_any (w : World) (g : Nat) (σ : FSt) (S : Nat → Prop) (h : RfAt w g σ S) (hG : RG σ) (dir : Int) (hi : -9223372036854775808 ≤ dir ∧ dir ≤ 9223372036854775807) (s : ByteArray) (hs : s.size ≤ 9223372036854775807) (d : Bool) (m : Int) (_hm : -9223372036854775808 ≤ m ∧ m ≤ 9223372036854775807) :
    Calls Tryz.prog 31 #[.pointer (some ⟨g, 0, none⟩), .int .i64 dir, .string s, .int .i64 (if d then 2 else 1), .int .i64 m] w (RmkPost σ g S dir s.data.toList d m w) := by
  have hlen := hG.live.len
  have ha := hide (rahead_any w g σ S h hG dir hi s hs)
  unfold RaPost at ha
  have hok := hide (fun h0 => ahead_ok (σ := σ) (dir := dir) (s := s.data.toList) h0)
  have hfE := hide (show ∀ e w', addE σ dir s.data.toList d = e → e ≠ 0 → Fr (fun _ => False) w w' → RmkPost σ g S dir s.data.toList d m w (.returned (.tuple #[.int .i64 0, .int .i64 e])) w' from fun e w' h1 h2 h3 => by
    unfold RmkPost makeR
    rw [h1, if_neg h2, if_pos h2]
    exact ⟨rfl, h.frame h3 (fun _ _ _ e => e), h3.mono (fun _ _ e => e.elim)⟩)
  have hf0 := hide (show addE σ dir s.data.toList d = 0 → ∀ w', RfAt w' g (addS σ dir s.data.toList d m) S → Fr S w w' → RmkPost σ g S dir s.data.toList d m w (.returned (.tuple #[.int .i64 (σ.free : Nat), .int .i64 0])) w' from fun h1 w' h2 h3 => by
    unfold RmkPost makeR
    rw [h1, if_pos rfl, if_neg (fun e => e rfl)]
    exact ⟨rfl, h2, h3⟩)
  have hdef : addE σ dir s.data.toList d = if (aheadE σ dir s.data.toList).1 ≠ 0 then (aheadE σ dir s.data.toList).1 else if slashS s.data.toList = true ∧ d = false then 21
    else if openS σ (aheadE σ dir s.data.toList).2.1 (aheadE σ dir s.data.toList).2.2 ≠ 0 then openS σ (aheadE σ dir s.data.toList).2.1 (aheadE σ dir s.data.toList).2.2 else if 100 ≤ σ.cnt then 23 else 0 := rfl
  have hdefS : addS σ dir s.data.toList d m = linkS (σ.add (newNd d m (aheadE σ dir s.data.toList).2.1)) (aheadE σ dir s.data.toList).2.1 (aheadE σ dir s.data.toList).2.2 σ.free := rfl
  rw [hdef] at hfE hf0
  rw [hdefS] at hf0
  clear hdef hdefS
  generalize aheadE σ dir s.data.toList = q at *
  obtain ⟨E, a, nm⟩ := q
  simp only at ha hfE hf0 hok
  have HA := hide h
  have HG := hide hG
  clear h hG
  obtain ⟨kd, hkd⟩ : ∃ kd : Int, kd = if d then 2 else 1 := ⟨_, rfl⟩
  rw [← hkd]
  have Hkd := hide hkd
  clear hkd
  go_enter Tryz.func31, Tryz.ntmps31
  go_wp2_with fail
  refine ha.out.mono ?_
  rintro e w1 ⟨rfl, hf1⟩
  have Hf1 := hide hf1
  clear ha hf1
  by_cases hE : E = 0
  · subst hE
    obtain ⟨n, hn, hd, hnl⟩ := hok.out rfl
    have hop : openS σ a nm = if (kget nm n.ents).isSome = true then 17 else if n.links = 0 then 2 else if mayN n.mode 2 = false then 13 else 0 := by unfold openS; rw [hn]; rfl
    rw [hop] at hfE hf0
    have hla := (HG.out.cap a n hn)
    clear hok hop
    by_cases hk1 : d = false ∧ slashS s.data.toList = true
    · obtain ⟨rfl, hsl⟩ := hk1
      have hkd1 : kd = 1 := Hkd.out
      have hsl' := hide (rslash_any w1 s hs)
      have hfin := hide (hfE.out 21 w1 (by rw [if_neg (fun e => e rfl), if_pos ⟨hsl, rfl⟩]) (by decide) Hf1.out)
      clear hfE hf0 Hkd
      subst hkd1
      rw [hsl] at hsl'
      go_wp2_with fail
      refine hsl'.out.mono ?_
      rintro e w2 ⟨rfl, rfl⟩
      go_wp2_with fail
      go_returns
      exact hfin.out
    · have hne2 : ¬ (slashS s.data.toList = true ∧ d = false) := fun e => hk1 ⟨e.2, e.1⟩
      rw [if_neg (fun e => e rfl), if_neg hne2] at hfE hf0
      have hcase : (d = true ∧ kd = 2) ∨ (d = false ∧ kd = 1 ∧ slashS s.data.toList = false) := by
        have := Hkd.out
        cases d with
        | true => exact .inl ⟨rfl, this⟩
        | false => exact .inr ⟨rfl, this, by cases hh : slashS s.data.toList with | true => exact absurd ⟨rfl, hh⟩ hk1 | false => rfl⟩
      clear hk1 hne2
      have HRA := hide (HA.out.frame Hf1.out (fun _ _ _ e => e))
      rcases hcase with ⟨rfl, rfl⟩ | ⟨rfl, rfl, hsl⟩
      · go_upto_region 6 with (fail)
        have halen : a ≤ σ.length := by have := (FSt.nd_lt (show (σ.nd a).isSome = true by rw [hn]; rfl)); omega
        have hents : entsAt σ a = n.ents := by unfold entsAt; rw [hn]
        have hfind := rfind_any w1 g σ S HRA.out (by omega) a halen (by rw [hents]; exact hla.2.2) (baL nm)
        have hfe : findN σ a (baL nm).data.toList = (kget nm n.ents).getD 0 := by rw [findN_ents, hents]; rfl
        rw [hfe] at hfind
        have hfind := hide hfind
        clear hfe hents
        cases hkg : kget nm n.ents with
        | some k =>
          rw [hkg] at hfind hfE hf0
          have hkp : 0 < k := by
            have := HG.out.live.ents a n hn _ (kget_mem hkg)
            exact (FSt.nd_lt this).1
          have hfin := hide (fun w' (hf : Fr (fun _ => False) w1 w') => hfE.out 17 w' (by simp) (by decide) (Hf1.out.trans hf))
          have hkI : (0 : Int) < ((((some k).getD 0 : Nat)) : Int) := by simpa using hkp
          generalize ((some k).getD 0) = kk at *
          clear hfE hf0 hkg hkp hla hn halen
          go_wp2_with fail
          refine hfind.out.mono ?_
          rintro e w2 ⟨rfl, hf2⟩
          have Hf2 := hide hf2
          clear hf2
          go_wp2_with fail
          go_returns
          exact hfin.out w2 Hf2.out
        | none =>
          rw [hkg] at hfind hfE hf0
          go_wp2_with fail
          refine hfind.out.mono ?_
          rintro e w2 ⟨rfl, hf2⟩
          have Hf2 := hide (Hf1.out.trans hf2)
          have HR2 := hide (HRA.out.frame hf2 (fun _ _ _ e => e))
          simp only [Option.isSome_none, Bool.false_eq_true, if_false] at hfE hf0
          clear hf2 hfind HRA Hf1
          obtain ⟨rv, nv, iv, hF⟩ := HR2.out
          have c0 : w2.cell? ⟨g, 0, none⟩ = some rv := by rw [blk_cell hF.hb]; rfl
          obtain ⟨nb, cap, rfl, hnb, k0, k1, k2, k3, k4, dt, na, nc, ia, ic, -, -, -, q0, q1, q2, q3, q4, q5, q6, q7, hsm, -⟩ := hF.node halen
          obtain ⟨rfl, rfl, rfl, rfl, rfl, rfl⟩ := hsm n hn
          have hiI : (a : Int) < (((σ.length + 1 : Nat)) : Int) := by omega
          have hi0 : (0 : Int) ≤ (a : Int) := by omega
          have HF := hide hF
          clear hF q0 q1 q3 q4 q5 q6 q7 hsm
          by_cases hl0 : n.links = 0
          · have hfin := hide (hfE.out 2 w2 (by simp [hl0]) (by decide) Hf2.out)
            have hl1 : (n.links : Int) = 0 := by omega
            clear hfE hf0 hl0 hla hn
            go_wp2_with fail
            go_returns
            exact hfin.out
          · have hl1 : ¬ (n.links : Int) = 0 := by omega
            rw [if_neg hl0] at hfE hf0
            have hmay := rmay_any w2 g σ S HR2.out (by omega) HG.out.md a 2 (by omega) (by omega)
            have hmr : mayR σ a 2 = mayN n.mode 2 := by unfold mayR; rw [ndI_cast, hn]; rfl
            rw [hmr] at hmay
            have hmay := hide hmay
            clear hl0 hmr
            go_wp2_with fail
            refine hmay.out.mono ?_
            rintro e w3 ⟨rfl, hw3⟩
            rw [hw3]
            clear hw3 hmay
            cases hmn : mayN n.mode 2 with
            | false =>
              have hfin := hide (hfE.out 13 w2 (by rw [hmn]; rfl) (by decide) Hf2.out)
              clear hfE hf0 hmn hla hn
              go_wp2_with fail
              go_returns
              exact hfin.out
            | true =>
              rw [hmn] at hfE hf0
              simp only [Bool.true_eq_false, if_false, ne_eq, not_true_eq_false] at hfE hf0
              have hcnt := hide (rcount_any w2 g σ S HR2.out (by omega))
              go_wp2_with fail
              refine hcnt.out.mono ?_
              rintro e w3 ⟨rfl, hw3⟩
              rw [hw3]
              clear hw3 hcnt
              by_cases hc100 : 100 ≤ σ.cnt
              · have hfin := hide (hfE.out 23 w2 (if_pos hc100) (by decide) Hf2.out)
                have hcI : (100 : Int) ≤ (σ.cnt : Int) := by omega
                clear hfE hf0 hmn hla hn hc100
                go_wp2_with fail
                go_returns
                exact hfin.out
              · have hcI : ¬ (100 : Int) ≤ (σ.cnt : Int) := by omega
                rw [if_neg hc100] at hf0
                have Hf0 := hide (hf0.out rfl)
                have Hn := hide hn
                have Hla := hide hla
                have Hkg := hide hkg
                have Hnl := hide hnl
                have HaL := hide halen
                clear hfE hf0 hmn hla hn hc100 hkg hnl halen q2 hl1 hiI hi0
                go_wp2_with fail
                go_loopg [15] σ.length (fun gk i wr => MkRel σ w2 gk i wr)
                case atStart => exact ⟨1, by omega, Nat.le_refl _, rfl, fun j h1 h2 => by omega, rfl⟩
                case round =>
                  obtain ⟨k, hgk, hk1, rfl, hlo, rfl⟩ := hrel
                  have Hgk := hide hgk
                  have Hlo := hide hlo
                  have Hk1 := hide hk1
                  have hk0 : (0 : Int) ≤ (k : Int) := by omega
                  by_cases hkl : k ≤ σ.length
                  · obtain ⟨nb', cap', e0, hnb', k0, k1, k2, k3, k4, dt, na', nc', ia', ic', -, -, -, q0, -, -, -, -, -, -, -, hsm, hno⟩ := HF.out.node hkl
                    cases e0
                    have hkI : (k : Int) < ((σ.length + 1 : Nat) : Int) := by omega
                    cases hnk : σ.nd k with
                    | some nk =>
                      obtain ⟨rfl, -⟩ := hsm nk hnk
                      have hkind : (0 : Int) < kindN nk := by unfold kindN; split <;> decide
                      have hnext := hide (show MkRel σ w2 (gk - 1) (.int .i64 ((k : Int) + 1)) w2 from ⟨k + 1, by omega, by omega, by go_num, fun j h1 h2 => by
                        by_cases e : j < k
                        · exact Hlo.out j h1 e
                        · obtain rfl : j = k := by omega
                          rw [hnk]; rfl, rfl⟩)
                      clear hgk hk1 hlo hkl hsm hno hnk
                      go_wp2_with fail
                      go_roundg (gk - 1)
                      case measure => have := Hgk.out; omega
                      case rel => exact hnext.out
                    | none =>
                      obtain ⟨rfl, -, -⟩ := hno hnk
                      have hfree := free_eq hk1 hlo hnk (by omega)
                      have hkne : ¬ (k : Int) = ((σ.length + 1 : Nat) : Int) := by omega
                      have hlenA : (σ.add (newNd true m a)).length = σ.length := by rw [add_len, if_pos (by omega)]
                      obtain ⟨hR6, hf6, hth⟩ := make_end HF.out rfl (fun _ => rfl) hfree hkl true m a hlenA 2 rfl
                      clear hsm hno hkl
                      obtain ⟨w6, hw6⟩ : ∃ w6, w6 = w2.setCells nb (k * 8) [.int .i64 2, .int .i64 (bits .and .i64 m 511), .int .i64 1, .int .i64 0, .int .i64 a, .string ⟨#[]⟩, .slice none 0 0, .slice none 0 0] := ⟨_, rfl⟩
                      rw [← hw6] at hR6 hf6
                      have hadd : (σ.add (newNd true m a)).nd a = some n := (FSt.add_other (by rw [Hn.out]; rfl) _).trans Hn.out
                      have Hput := hide (rput_any w6 g (σ.add (newNd true m a)) S hR6 (by rw [hlenA]; omega) a n hadd Hla.out.2.2 (baL nm) k Hkg.out)
                      have Hfin := hide (fun w7 (h7 : RfAt w7 g (linkS (σ.add (newNd true m a)) a nm k) S) (f7 : Fr S w6 w7) => Hf0.out w7 (by rw [hfree]; exact h7) (((Hf2.out.mono (fun _ _ e => e.elim))).trans (hf6.trans f7)))
                      rw [hfree] at Hfin
                      clear hR6 hf6 hadd hlenA hfree
                      go_upto_region 19 with (fail)
                      go_wp2_with (refine wpList_store_mid rfl 82 _ _ rfl nb (k * 8) #[.int .i64 2, .int .i64 (bits .and .i64 m 511), .int .i64 1, .int .i64 0, .int .i64 a, .string ⟨#[]⟩, .slice none 0 0, .slice none 0 0] ?zc2 ?zc3 ?zc4 ?zc5 ?zc6 ?_)
                      case zc2 => rfl
                      case zc3 => rfl
                      case zc4 => simpa using hth
                      case zc5 => kernel_rfl
                      case zc6 => simp [Value.oneCell']
                      have e6 : w6 = w2.setCells nb (k * 8) (#[.int .i64 2, .int .i64 (bits .and .i64 m 511), .int .i64 1, .int .i64 0, .int .i64 a, .string ⟨#[]⟩, .slice none 0 0, .slice none 0 0] : Array Value).toList := hw6
                      rw [← e6]
                      clear e6 hw6 hth
                      refine Hput.out.mono ?_
                      rintro e w7 ⟨rfl, h7, f7⟩
                      go_wp2_with fail
                      go_returns
                      exact Hfin.out w7 h7 f7
                  · have hke : k = σ.length + 1 := by omega
                    have hfree := free_eq hk1 hlo (nd_big (by omega)) (by omega)
                    have hkI : ¬ (k : Int) < ((σ.length + 1 : Nat) : Int) := by omega
                    have hkeI : ((k : Int) == (σ.length : Int) + 1) = true := by simpa using (by omega : (k : Int) = (σ.length : Int) + 1)
                    obtain ⟨i0, hinf, hz0, hz1, hz2⟩ := info_parts Tryz.infoNode
                    have hlenA : (σ.add (newNd true m a)).length = (σ ++ [none]).length := by rw [add_len, if_neg (by omega), List.length_append]; rfl
                    have hle5 : k ≤ (σ ++ [none]).length := by rw [List.length_append]; exact Nat.le_of_eq hke
                    have Hgrow := hide (show ∀ w5 v5, w5.ownsRow w2.heap.size 82 8 v5 (σ.length + 2) (nodesR σ nv iv ++ zeroR) → Fr (fun _ => False) w2 w5 → _ from fun w5 v5 h1 h2 => HF.out.grow h2 h1)
                    have Hfree := hide hfree
                    have hfr8 := HF.out.row
                    obtain ⟨_, _, e8, -, -, -, -, hcs⟩ := hfr8
                    cases e8
                    have Hcs := hide hcs
                    have HlenA := hide hlenA
                    have Hle5 := hide hle5
                    have hgl := hide (blk_lt HF.out.hb)
                    have c0b : (w2.alloc (.cells #[] 82)).cell? ⟨g, 0, none⟩ = some (.slice (some ⟨nb, 0, none⟩) (σ.length + 1) cap) := by rw [World.cell?_of_block (Below.heap_alloc w2 _ _ hgl.out)]; exact c0
                    have hown0 : (w2.alloc (.cells #[] 82)).ownsRow w2.heap.size 82 8 (.slice (some ⟨w2.heap.size, 0, none⟩) 0 0) 0 [] := World.ownsRow_made w2 #[] 0 (Nat.le_refl _) (Nat.zero_le _) (by simp)
                    have hdone : True := trivial
                    clear hcs hfree hke hkl hlenA hle5
                    have Hone := hide HF.out.one
                    go_upto_region 18 with (fail)
                    go_wp2_with (at_builtin; refine wpList_append_src rfl _ _ 83 rfl w2.heap.size 82 i0 _ 8 104 Tryz.underlying83 hinf hz0 hz1 hz2 rfl (by decide) _ _ _ ?xa0true hown0 (some ⟨nb, 0, none⟩) (σ.length + 1) cap (nodesR σ nv iv) ?xa1true ?xa2true ?xa3true ?xa4true ?xa5true ?xa6true ?xa7true ?_)
                    case xa2true => exact nodesR_len σ nv iv
                    case xa3true =>
                      intro j u hj
                      have hjl := (List.getElem?_eq_some_iff.1 hj).1
                      rw [nodesR_len] at hjl
                      exact (HF.out.hr.cellAt j hjl).trans hj
                    case xa4true => exact Hone.out
                    case xa5true => unfold maxLen; omega
                    case xa6true => omega
                    intro v5 w5 own5 fr5 at5
                    have hown5 : (w5.alloc (.cells #[.int .i64 0, .int .i64 0, .int .i64 0, .int .i64 0, .int .i64 0, .string ⟨#[]⟩, .slice none 0 0, .slice none 0 0] 82)).ownsRow w2.heap.size 82 8 v5 (σ.length + 1) (nodesR σ nv iv) := own5.alloc _
                    have hf25 : Fr (fun _ => False) w2 w5 := ((Fr.refl _ _).alloc _).trans' fr5 (fun i hi e => by simp [Value.ownBlock] at e; omega)
                    have hlt5 := hide (fun q e => (own5.lt q e).1)
                    have hcz := hide (blk_new w5 (.cells #[.int .i64 0, .int .i64 0, .int .i64 0, .int .i64 0, .int .i64 0, .string ⟨#[]⟩, .slice none 0 0, .slice none 0 0] 82))
                    have Hf25 := hide hf25
                    clear hf25 fr5 at5
                    go_wp2_with (at_builtin; refine wpList_append_src rfl _ _ 83 rfl w2.heap.size 82 i0 _ 8 104 Tryz.underlying83 hinf hz0 hz1 hz2 rfl (by decide) _ _ _ ?xc0true hown5 (some ⟨w5.heap.size, 0, none⟩) 1 1 zeroR ?xc1true ?xc2true ?xc3true ?xc4true ?xc5true ?xc6true ?xc7true ?_)
                    case xc0true => rfl
                    case xc1true => rfl
                    case xc2true => rfl
                    case xc3true =>
                      refine .inr ⟨_, rfl, fun j u hj => ?_⟩
                      rw [Addr.add_lit, Nat.zero_add, blk_cell hcz.out]
                      simpa [zeroR] using hj
                    case xc4true => unfold zeroR; simp [Value.oneCell']
                    case xc5true => unfold maxLen; omega
                    case xc6true => omega
                    case xc7true => have := Hf25.out.size; simp; omega
                    intro v6 x6 own6 fr6 at6
                    have hf26 : Fr (fun _ => False) w2 x6 := (Hf25.out.alloc _).trans' fr6 (fun q hq e => by have := hlt5.out q e; omega)
                    obtain ⟨n6, hn6⟩ : ∃ n6, n6 = σ.length + 1 + 1 := ⟨_, rfl⟩
                    rw [← hn6] at own6
                    obtain ⟨nb6, cap6, rfl, -⟩ := own6.form (by omega)
                    obtain ⟨hF8, hf8⟩ := Hgrow.out x6 _ (by rw [← hn6]; exact own6) hf26
                    have hg6 := hf26.get HF.out.hb (fun h => h)
                    have cg6 : x6.cell? ⟨g, 0, none⟩ = some (.slice (some ⟨nb, 0, none⟩) (σ.length + 1) cap) := by rw [blk_cell hg6]; rfl
                    have zg6 := blk_frozen hg6 0
                    obtain ⟨w8, hw8⟩ : ∃ w8, w8 = x6.setCell ⟨g, 0, none⟩ (.slice (some ⟨nb6, 0, none⟩) n6 cap6) := ⟨_, rfl⟩
                    rw [← hw8] at hF8 hf8
                    have c08 : w8.cell? ⟨g, 0, none⟩ = some (.slice (some ⟨nb6, 0, none⟩) n6 cap6) := by rw [blk_cell hF8.hb]; rfl
                    have hk6 : (k : Int) < (n6 : Int) := by have := Hk1.out; have := hkI; omega
                    have hfree := Hfree.out
                    have hlenA := HlenA.out
                    obtain ⟨hR6, hf6, hth⟩ := make_end hF8 (by rw [hn6, List.length_append]; rfl) (nd_grown σ) hfree Hle5.out true m a hlenA 2 rfl
                    have hfS : Fr S w w8 := (Hf2.out.mono (fun _ _ e => e.elim)).trans (hf8.mono (fun q _ e => e ▸ HF.out.own))
                    have Hn6 := hide hn6
                    clear hn6 own6 fr6 at6 hf26 hF8 hf8 hg6 hkeI hown5 own5 c0b hown0
                    go_upto_region 19 with (fail)
                    rw [← hw8]
                    clear hw8 cg6 zg6 c0
                    obtain ⟨w6, hw6⟩ : ∃ w6, w6 = w8.setCells nb6 (k * 8) [.int .i64 2, .int .i64 (bits .and .i64 m 511), .int .i64 1, .int .i64 0, .int .i64 a, .string ⟨#[]⟩, .slice none 0 0, .slice none 0 0] := ⟨_, rfl⟩
                    rw [← hw6] at hR6 hf6
                    have hadd : (σ.add (newNd true m a)).nd a = some n := (FSt.add_other (by rw [Hn.out]; rfl) _).trans Hn.out
                    have Hput := hide (rput_any w6 g (σ.add (newNd true m a)) S hR6 (by rw [hlenA]; rw [List.length_append]; simp; omega) a n hadd Hla.out.2.2 (baL nm) k Hkg.out)
                    have Hfin := hide (fun w7 (h7 : RfAt w7 g (linkS (σ.add (newNd true m a)) a nm k) S) (f7 : Fr S w6 w7) => Hf0.out w7 (by rw [hfree]; exact h7) ((hfS).trans (hf6.trans f7)))
                    rw [hfree] at Hfin
                    clear hR6 hf6 hadd hlenA hfree
                    go_wp2_with (refine wpList_store_mid rfl 82 _ _ rfl nb6 (k * 8) #[.int .i64 2, .int .i64 (bits .and .i64 m 511), .int .i64 1, .int .i64 0, .int .i64 a, .string ⟨#[]⟩, .slice none 0 0, .slice none 0 0] ?zc2 ?zc3 ?zc4 ?zc5 ?zc6 ?_)
                    case zc2 => rfl
                    case zc3 => rfl
                    case zc4 => simpa using hth
                    case zc5 => kernel_rfl
                    case zc6 => simp [Value.oneCell']
                    have e6 : w6 = w8.setCells nb6 (k * 8) (#[.int .i64 2, .int .i64 (bits .and .i64 m 511), .int .i64 1, .int .i64 0, .int .i64 a, .string ⟨#[]⟩, .slice none 0 0, .slice none 0 0] : Array Value).toList := hw6
                    rw [← e6]
                    clear e6 hw6 hth
                    refine Hput.out.mono ?_
                    rintro e w7 ⟨rfl, h7, f7⟩
                    go_wp2_with fail
                    go_returns
                    exact Hfin.out w7 h7 f7
      · have hsl' := hide (rslash_any w1 s hs)
        rw [hsl] at hsl'
        clear hsl
        go_wp2_with fail
        refine hsl'.out.mono ?_
        rintro e w2 ⟨rfl, hw2⟩
        rw [hw2]
        clear hw2
        go_upto_region 6 with (fail)
        have halen : a ≤ σ.length := by have := (FSt.nd_lt (show (σ.nd a).isSome = true by rw [hn]; rfl)); omega
        have hents : entsAt σ a = n.ents := by unfold entsAt; rw [hn]
        have hfind := rfind_any w1 g σ S HRA.out (by omega) a halen (by rw [hents]; exact hla.2.2) (baL nm)
        have hfe : findN σ a (baL nm).data.toList = (kget nm n.ents).getD 0 := by rw [findN_ents, hents]; rfl
        rw [hfe] at hfind
        have hfind := hide hfind
        clear hfe hents
        cases hkg : kget nm n.ents with
        | some k =>
          rw [hkg] at hfind hfE hf0
          have hkp : 0 < k := by
            have := HG.out.live.ents a n hn _ (kget_mem hkg)
            exact (FSt.nd_lt this).1
          have hfin := hide (fun w' (hf : Fr (fun _ => False) w1 w') => hfE.out 17 w' (by simp) (by decide) (Hf1.out.trans hf))
          have hkI : (0 : Int) < ((((some k).getD 0 : Nat)) : Int) := by simpa using hkp
          generalize ((some k).getD 0) = kk at *
          clear hfE hf0 hkg hkp hla hn halen
          go_wp2_with fail
          refine hfind.out.mono ?_
          rintro e w2 ⟨rfl, hf2⟩
          have Hf2 := hide hf2
          clear hf2
          go_wp2_with fail
          go_returns
          exact hfin.out w2 Hf2.out
        | none =>
          rw [hkg] at hfind hfE hf0
          go_wp2_with fail
          refine hfind.out.mono ?_
          rintro e w2 ⟨rfl, hf2⟩
          have Hf2 := hide (Hf1.out.trans hf2)
          have HR2 := hide (HRA.out.frame hf2 (fun _ _ _ e => e))
          simp only [Option.isSome_none, Bool.false_eq_true, if_false] at hfE hf0
          clear hf2 hfind HRA Hf1
          obtain ⟨rv, nv, iv, hF⟩ := HR2.out
          have c0 : w2.cell? ⟨g, 0, none⟩ = some rv := by rw [blk_cell hF.hb]; rfl
          obtain ⟨nb, cap, rfl, hnb, k0, k1, k2, k3, k4, dt, na, nc, ia, ic, -, -, -, q0, q1, q2, q3, q4, q5, q6, q7, hsm, -⟩ := hF.node halen
          obtain ⟨rfl, rfl, rfl, rfl, rfl, rfl⟩ := hsm n hn
          have hiI : (a : Int) < (((σ.length + 1 : Nat)) : Int) := by omega
          have hi0 : (0 : Int) ≤ (a : Int) := by omega
          have HF := hide hF
          clear hF q0 q1 q3 q4 q5 q6 q7 hsm
          by_cases hl0 : n.links = 0
          · have hfin := hide (hfE.out 2 w2 (by simp [hl0]) (by decide) Hf2.out)
            have hl1 : (n.links : Int) = 0 := by omega
            clear hfE hf0 hl0 hla hn
            go_wp2_with fail
            go_returns
            exact hfin.out
          · have hl1 : ¬ (n.links : Int) = 0 := by omega
            rw [if_neg hl0] at hfE hf0
            have hmay := rmay_any w2 g σ S HR2.out (by omega) HG.out.md a 2 (by omega) (by omega)
            have hmr : mayR σ a 2 = mayN n.mode 2 := by unfold mayR; rw [ndI_cast, hn]; rfl
            rw [hmr] at hmay
            have hmay := hide hmay
            clear hl0 hmr
            go_wp2_with fail
            refine hmay.out.mono ?_
            rintro e w3 ⟨rfl, hw3⟩
            rw [hw3]
            clear hw3 hmay
            cases hmn : mayN n.mode 2 with
            | false =>
              have hfin := hide (hfE.out 13 w2 (by rw [hmn]; rfl) (by decide) Hf2.out)
              clear hfE hf0 hmn hla hn
              go_wp2_with fail
              go_returns
              exact hfin.out
            | true =>
              rw [hmn] at hfE hf0
              simp only [Bool.true_eq_false, if_false, ne_eq, not_true_eq_false] at hfE hf0
              have hcnt := hide (rcount_any w2 g σ S HR2.out (by omega))
              go_wp2_with fail
              refine hcnt.out.mono ?_
              rintro e w3 ⟨rfl, hw3⟩
              rw [hw3]
              clear hw3 hcnt
              by_cases hc100 : 100 ≤ σ.cnt
              · have hfin := hide (hfE.out 23 w2 (if_pos hc100) (by decide) Hf2.out)
                have hcI : (100 : Int) ≤ (σ.cnt : Int) := by omega
                clear hfE hf0 hmn hla hn hc100
                go_wp2_with fail
                go_returns
                exact hfin.out
              · have hcI : ¬ (100 : Int) ≤ (σ.cnt : Int) := by omega
                rw [if_neg hc100] at hf0
                have Hf0 := hide (hf0.out rfl)
                have Hn := hide hn
                have Hla := hide hla
                have Hkg := hide hkg
                have Hnl := hide hnl
                have HaL := hide halen
                clear hfE hf0 hmn hla hn hc100 hkg hnl halen q2 hl1 hiI hi0
                go_wp2_with fail
                go_loopg [15] σ.length (fun gk i wr => MkRel σ w2 gk i wr)
                case atStart => exact ⟨1, by omega, Nat.le_refl _, rfl, fun j h1 h2 => by omega, rfl⟩
                case round =>
                  obtain ⟨k, hgk, hk1, rfl, hlo, rfl⟩ := hrel
                  have Hgk := hide hgk
                  have Hlo := hide hlo
                  have Hk1 := hide hk1
                  have hk0 : (0 : Int) ≤ (k : Int) := by omega
                  by_cases hkl : k ≤ σ.length
                  · obtain ⟨nb', cap', e0, hnb', k0, k1, k2, k3, k4, dt, na', nc', ia', ic', -, -, -, q0, -, -, -, -, -, -, -, hsm, hno⟩ := HF.out.node hkl
                    cases e0
                    have hkI : (k : Int) < ((σ.length + 1 : Nat) : Int) := by omega
                    cases hnk : σ.nd k with
                    | some nk =>
                      obtain ⟨rfl, -⟩ := hsm nk hnk
                      have hkind : (0 : Int) < kindN nk := by unfold kindN; split <;> decide
                      have hnext := hide (show MkRel σ w2 (gk - 1) (.int .i64 ((k : Int) + 1)) w2 from ⟨k + 1, by omega, by omega, by go_num, fun j h1 h2 => by
                        by_cases e : j < k
                        · exact Hlo.out j h1 e
                        · obtain rfl : j = k := by omega
                          rw [hnk]; rfl, rfl⟩)
                      clear hgk hk1 hlo hkl hsm hno hnk
                      go_wp2_with fail
                      go_roundg (gk - 1)
                      case measure => have := Hgk.out; omega
                      case rel => exact hnext.out
                    | none =>
                      obtain ⟨rfl, -, -⟩ := hno hnk
                      have hfree := free_eq hk1 hlo hnk (by omega)
                      have hkne : ¬ (k : Int) = ((σ.length + 1 : Nat) : Int) := by omega
                      have hlenA : (σ.add (newNd false m a)).length = σ.length := by rw [add_len, if_pos (by omega)]
                      obtain ⟨hR6, hf6, hth⟩ := make_end HF.out rfl (fun _ => rfl) hfree hkl false m a hlenA 1 rfl
                      clear hsm hno hkl
                      obtain ⟨w6, hw6⟩ : ∃ w6, w6 = w2.setCells nb (k * 8) [.int .i64 1, .int .i64 (bits .and .i64 m 511), .int .i64 1, .int .i64 0, .int .i64 a, .string ⟨#[]⟩, .slice none 0 0, .slice none 0 0] := ⟨_, rfl⟩
                      rw [← hw6] at hR6 hf6
                      have hadd : (σ.add (newNd false m a)).nd a = some n := (FSt.add_other (by rw [Hn.out]; rfl) _).trans Hn.out
                      have Hput := hide (rput_any w6 g (σ.add (newNd false m a)) S hR6 (by rw [hlenA]; omega) a n hadd Hla.out.2.2 (baL nm) k Hkg.out)
                      have Hfin := hide (fun w7 (h7 : RfAt w7 g (linkS (σ.add (newNd false m a)) a nm k) S) (f7 : Fr S w6 w7) => Hf0.out w7 (by rw [hfree]; exact h7) (((Hf2.out.mono (fun _ _ e => e.elim))).trans (hf6.trans f7)))
                      rw [hfree] at Hfin
                      clear hR6 hf6 hadd hlenA hfree
                      go_upto_region 19 with (fail)
                      go_wp2_with (refine wpList_store_mid rfl 82 _ _ rfl nb (k * 8) #[.int .i64 1, .int .i64 (bits .and .i64 m 511), .int .i64 1, .int .i64 0, .int .i64 a, .string ⟨#[]⟩, .slice none 0 0, .slice none 0 0] ?zc2 ?zc3 ?zc4 ?zc5 ?zc6 ?_)
                      case zc2 => rfl
                      case zc3 => rfl
                      case zc4 => simpa using hth
                      case zc5 => kernel_rfl
                      case zc6 => simp [Value.oneCell']
                      have e6 : w6 = w2.setCells nb (k * 8) (#[.int .i64 1, .int .i64 (bits .and .i64 m 511), .int .i64 1, .int .i64 0, .int .i64 a, .string ⟨#[]⟩, .slice none 0 0, .slice none 0 0] : Array Value).toList := hw6
                      rw [← e6]
                      clear e6 hw6 hth
                      refine Hput.out.mono ?_
                      rintro e w7 ⟨rfl, h7, f7⟩
                      go_wp2_with fail
                      go_returns
                      exact Hfin.out w7 h7 f7
                  · have hke : k = σ.length + 1 := by omega
                    have hfree := free_eq hk1 hlo (nd_big (by omega)) (by omega)
                    have hkI : ¬ (k : Int) < ((σ.length + 1 : Nat) : Int) := by omega
                    have hkeI : ((k : Int) == (σ.length : Int) + 1) = true := by simpa using (by omega : (k : Int) = (σ.length : Int) + 1)
                    obtain ⟨i0, hinf, hz0, hz1, hz2⟩ := info_parts Tryz.infoNode
                    have hlenA : (σ.add (newNd false m a)).length = (σ ++ [none]).length := by rw [add_len, if_neg (by omega), List.length_append]; rfl
                    have hle5 : k ≤ (σ ++ [none]).length := by rw [List.length_append]; exact Nat.le_of_eq hke
                    have Hgrow := hide (show ∀ w5 v5, w5.ownsRow w2.heap.size 82 8 v5 (σ.length + 2) (nodesR σ nv iv ++ zeroR) → Fr (fun _ => False) w2 w5 → _ from fun w5 v5 h1 h2 => HF.out.grow h2 h1)
                    have Hfree := hide hfree
                    have hfr8 := HF.out.row
                    obtain ⟨_, _, e8, -, -, -, -, hcs⟩ := hfr8
                    cases e8
                    have Hcs := hide hcs
                    have HlenA := hide hlenA
                    have Hle5 := hide hle5
                    have hgl := hide (blk_lt HF.out.hb)
                    have c0b : (w2.alloc (.cells #[] 82)).cell? ⟨g, 0, none⟩ = some (.slice (some ⟨nb, 0, none⟩) (σ.length + 1) cap) := by rw [World.cell?_of_block (Below.heap_alloc w2 _ _ hgl.out)]; exact c0
                    have hown0 : (w2.alloc (.cells #[] 82)).ownsRow w2.heap.size 82 8 (.slice (some ⟨w2.heap.size, 0, none⟩) 0 0) 0 [] := World.ownsRow_made w2 #[] 0 (Nat.le_refl _) (Nat.zero_le _) (by simp)
                    have hdone : True := trivial
                    clear hcs hfree hke hkl hlenA hle5
                    have Hone := hide HF.out.one
                    go_upto_region 18 with (fail)
                    go_wp2_with (at_builtin; refine wpList_append_src rfl _ _ 83 rfl w2.heap.size 82 i0 _ 8 104 Tryz.underlying83 hinf hz0 hz1 hz2 rfl (by decide) _ _ _ ?xa0false hown0 (some ⟨nb, 0, none⟩) (σ.length + 1) cap (nodesR σ nv iv) ?xa1false ?xa2false ?xa3false ?xa4false ?xa5false ?xa6false ?xa7false ?_)
                    case xa2false => exact nodesR_len σ nv iv
                    case xa3false =>
                      intro j u hj
                      have hjl := (List.getElem?_eq_some_iff.1 hj).1
                      rw [nodesR_len] at hjl
                      exact (HF.out.hr.cellAt j hjl).trans hj
                    case xa4false => exact Hone.out
                    case xa5false => unfold maxLen; omega
                    case xa6false => omega
                    intro v5 w5 own5 fr5 at5
                    have hown5 : (w5.alloc (.cells #[.int .i64 0, .int .i64 0, .int .i64 0, .int .i64 0, .int .i64 0, .string ⟨#[]⟩, .slice none 0 0, .slice none 0 0] 82)).ownsRow w2.heap.size 82 8 v5 (σ.length + 1) (nodesR σ nv iv) := own5.alloc _
                    have hf25 : Fr (fun _ => False) w2 w5 := ((Fr.refl _ _).alloc _).trans' fr5 (fun i hi e => by simp [Value.ownBlock] at e; omega)
                    have hlt5 := hide (fun q e => (own5.lt q e).1)
                    have hcz := hide (blk_new w5 (.cells #[.int .i64 0, .int .i64 0, .int .i64 0, .int .i64 0, .int .i64 0, .string ⟨#[]⟩, .slice none 0 0, .slice none 0 0] 82))
                    have Hf25 := hide hf25
                    clear hf25 fr5 at5
                    go_wp2_with (at_builtin; refine wpList_append_src rfl _ _ 83 rfl w2.heap.size 82 i0 _ 8 104 Tryz.underlying83 hinf hz0 hz1 hz2 rfl (by decide) _ _ _ ?xc0false hown5 (some ⟨w5.heap.size, 0, none⟩) 1 1 zeroR ?xc1false ?xc2false ?xc3false ?xc4false ?xc5false ?xc6false ?xc7false ?_)
                    case xc0false => rfl
                    case xc1false => rfl
                    case xc2false => rfl
                    case xc3false =>
                      refine .inr ⟨_, rfl, fun j u hj => ?_⟩
                      rw [Addr.add_lit, Nat.zero_add, blk_cell hcz.out]
                      simpa [zeroR] using hj
                    case xc4false => unfold zeroR; simp [Value.oneCell']
                    case xc5false => unfold maxLen; omega
                    case xc6false => omega
                    case xc7false => have := Hf25.out.size; simp; omega
                    intro v6 x6 own6 fr6 at6
                    have hf26 : Fr (fun _ => False) w2 x6 := (Hf25.out.alloc _).trans' fr6 (fun q hq e => by have := hlt5.out q e; omega)
                    obtain ⟨n6, hn6⟩ : ∃ n6, n6 = σ.length + 1 + 1 := ⟨_, rfl⟩
                    rw [← hn6] at own6
                    obtain ⟨nb6, cap6, rfl, -⟩ := own6.form (by omega)
                    obtain ⟨hF8, hf8⟩ := Hgrow.out x6 _ (by rw [← hn6]; exact own6) hf26
                    have hg6 := hf26.get HF.out.hb (fun h => h)
                    have cg6 : x6.cell? ⟨g, 0, none⟩ = some (.slice (some ⟨nb, 0, none⟩) (σ.length + 1) cap) := by rw [blk_cell hg6]; rfl
                    have zg6 := blk_frozen hg6 0
                    obtain ⟨w8, hw8⟩ : ∃ w8, w8 = x6.setCell ⟨g, 0, none⟩ (.slice (some ⟨nb6, 0, none⟩) n6 cap6) := ⟨_, rfl⟩
                    rw [← hw8] at hF8 hf8
                    have c08 : w8.cell? ⟨g, 0, none⟩ = some (.slice (some ⟨nb6, 0, none⟩) n6 cap6) := by rw [blk_cell hF8.hb]; rfl
                    have hk6 : (k : Int) < (n6 : Int) := by have := Hk1.out; have := hkI; omega
                    have hfree := Hfree.out
                    have hlenA := HlenA.out
                    obtain ⟨hR6, hf6, hth⟩ := make_end hF8 (by rw [hn6, List.length_append]; rfl) (nd_grown σ) hfree Hle5.out false m a hlenA 1 rfl
                    have hfS : Fr S w w8 := (Hf2.out.mono (fun _ _ e => e.elim)).trans (hf8.mono (fun q _ e => e ▸ HF.out.own))
                    have Hn6 := hide hn6
                    clear hn6 own6 fr6 at6 hf26 hF8 hf8 hg6 hkeI hown5 own5 c0b hown0
                    go_upto_region 19 with (fail)
                    rw [← hw8]
                    clear hw8 cg6 zg6 c0
                    obtain ⟨w6, hw6⟩ : ∃ w6, w6 = w8.setCells nb6 (k * 8) [.int .i64 1, .int .i64 (bits .and .i64 m 511), .int .i64 1, .int .i64 0, .int .i64 a, .string ⟨#[]⟩, .slice none 0 0, .slice none 0 0] := ⟨_, rfl⟩
                    rw [← hw6] at hR6 hf6
                    have hadd : (σ.add (newNd false m a)).nd a = some n := (FSt.add_other (by rw [Hn.out]; rfl) _).trans Hn.out
                    have Hput := hide (rput_any w6 g (σ.add (newNd false m a)) S hR6 (by rw [hlenA]; rw [List.length_append]; simp; omega) a n hadd Hla.out.2.2 (baL nm) k Hkg.out)
                    have Hfin := hide (fun w7 (h7 : RfAt w7 g (linkS (σ.add (newNd false m a)) a nm k) S) (f7 : Fr S w6 w7) => Hf0.out w7 (by rw [hfree]; exact h7) ((hfS).trans (hf6.trans f7)))
                    rw [hfree] at Hfin
                    clear hR6 hf6 hadd hlenA hfree
                    go_wp2_with (refine wpList_store_mid rfl 82 _ _ rfl nb6 (k * 8) #[.int .i64 1, .int .i64 (bits .and .i64 m 511), .int .i64 1, .int .i64 0, .int .i64 a, .string ⟨#[]⟩, .slice none 0 0, .slice none 0 0] ?zc2 ?zc3 ?zc4 ?zc5 ?zc6 ?_)
                    case zc2 => rfl
                    case zc3 => rfl
                    case zc4 => simpa using hth
                    case zc5 => kernel_rfl
                    case zc6 => simp [Value.oneCell']
                    have e6 : w6 = w8.setCells nb6 (k * 8) (#[.int .i64 1, .int .i64 (bits .and .i64 m 511), .int .i64 1, .int .i64 0, .int .i64 a, .string ⟨#[]⟩, .slice none 0 0, .slice none 0 0] : Array Value).toList := hw6
                    rw [← e6]
                    clear e6 hw6 hth
                    refine Hput.out.mono ?_
                    rintro e w7 ⟨rfl, h7, f7⟩
                    go_wp2_with fail
                    go_returns
                    exact Hfin.out w7 h7 f7
  · have hfin := hide (hfE.out E w1 (if_pos hE) hE Hf1.out)
    clear hfE hf0 hok
    go_wp2_with fail
    go_returns
    exact hfin.out
end Go.Proofs.YtlhmmiolnbgloaaGreatDoor
