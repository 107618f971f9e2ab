/- files.below: what is in a directory, told to whoever asks. Conditions: the contract's own premises. -/
import Derived.Test.YthikjdpnlahkfaaGreatDoorFilesTreeS
import Derived.Test.YthikjdpnlahkfaaGreatDoorFilesY
import Derived.Test.YthikjdpnlahkfaaGreatDoorFilesO
import Derived.Test.YthikjdpnlahkfaaGreatDoorRegionIn
import Derived.Test.YthikjdpnlahkfaaGreatDoorRangeFuncC
import Derived.Shelf.Abstract
import Derived.Shelf.AbstractIn
import Derived.OwnWalkIn
import Derived.TacticsInMore
import Derived.LoopNIn
import Derived.LoopIn
namespace Go.Proofs.YthikjdpnlahkfaaGreatDoor
open Go.RowKit Go.Shelf Go.Maps

attribute [local go_sem] Oper.semAt_some

def baL (l : List UInt8) : ByteArray := ⟨l.toArray⟩
def entV (x : EntQ) : Value := .agg #[.string (baL x.path), .int .i64 x.kind, .int .i64 x.mode, .string (baL x.data)]
def eenc (x : EntQ) : Array Value := #[entV x]
/-- What a loop's body makes of the entries that it is told. -/
def YieldsTo (L : List EntQ) (l : Nat) (J : Nat → (Nat → Prop) → World → Prop) (Jx : (Nat → Prop) → World → Prop) : Prop :=
  ∀ (s : Nat) (A : Nat → Prop) (W : World) (h : s < L.length), J s A W → YieldAt FW (8 - 1) Tryz.prog l (eenc L[s]) W fun e W' => Fr A W W' ∧ ((e = .returned (.bool true) ∧ J (s + 1) (fun k => A k ∨ (W.heap.size ≤ k ∧ k < W'.heap.size)) W') ∨ (e = .returned (.bool false) ∧ Jx (fun k => A k ∨ (W.heap.size ≤ k ∧ k < W'.heap.size)) W'))
def BelowPost (J : Nat → (Nat → Prop) → World → Prop) (Jx : (Nat → Prop) → World → Prop) (A0 : Nat → Prop) (W0 : World) (s' : Nat) (e : Ending) (W' : World) : Prop :=
  Fr A0 W0 W' ∧ ((e = .returned (.bool true) ∧ ∃ A' : Nat → Prop, J s' A' W' ∧ ∀ k, A' k → A0 k ∨ W0.heap.size ≤ k) ∨ (e = .returned (.bool false) ∧ ∃ A' : Nat → Prop, Jx A' W'))
/-- What is told of a directory's first entries. -/
def tot (σ : FSt) (fuel : Nat) (P : List UInt8) (n : Nd) (j : Nat) : List EntQ := ((n.ents.take j).map (entL σ (treeF σ fuel) P)).flatten
theorem tot_succ (σ : FSt) (fuel : Nat) (P : List UInt8) (n : Nd) (j : Nat) (h : j < n.ents.length) : tot σ fuel P n (j + 1) = tot σ fuel P n j ++ entL σ (treeF σ fuel) P n.ents[j] := by
  unfold tot
  rw [List.take_succ_eq_append_getElem h, List.map_append, List.flatten_append]
  simp
theorem tot_all {σ : FSt} {i : Nat} {n : Nd} (h : σ.nd i = some n) (fuel : Nat) (P : List UInt8) : treeF σ (fuel + 1) P i = tot σ fuel P n n.ents.length := by
  rw [treeF_succ h, tot, List.take_length]
theorem tot_part (σ : FSt) (fuel : Nat) (P : List UInt8) (n : Nd) (j : Nat) (h : j < n.ents.length) : ∃ r, tot σ fuel P n n.ents.length = tot σ fuel P n j ++ (entL σ (treeF σ fuel) P n.ents[j] ++ r) := by
  refine ⟨((n.ents.drop (j + 1)).map (entL σ (treeF σ fuel) P)).flatten, ?_⟩
  unfold tot
  rw [List.take_length, ← List.append_assoc]
  have e : (entL σ (treeF σ fuel) P) n.ents[j] = (([n.ents[j]] : List (List UInt8 × Nat)).map (entL σ (treeF σ fuel) P)).flatten := by simp
  rw [e, ← List.flatten_append, ← List.map_append, ← List.flatten_append, ← List.map_append, ← List.take_succ_eq_append_getElem h, List.take_append_drop]
theorem conv_data {w : World} {dv : Value} {l : List UInt8} (h : DataV w dv l) : (convert 56 9 dv).run Tryz.prog w = .ok (.string (baL l)) w := by
  rcases h with ⟨rfl, rfl⟩ | ⟨g, cap, cur, rfl, hg, h1, h2, h3⟩
  · exact run_convert_bytes_nil w 56 5 (by kernel_rfl) (by kernel_rfl) 0 0 9 (by kernel_rfl)
  · refine conv_bytes l (fun j hj => ?_) cap
    rw [blk_cell hg, Nat.zero_add]
    have h4 := congrArg (fun x => x[j]?) h3
    simp only [List.getElem?_take_of_lt hj, Array.getElem?_toList, List.getElem?_map, List.getElem?_eq_getElem hj, Option.map_some] at h4
    exact h4
def BRel (σ : FSt) (fuel : Nat) (P : List UInt8) (n : Nd) (s0 : Nat) (A0 : Nat → Prop) (W0 : World) (J : Nat → (Nat → Prop) → World → Prop) (ka : Value) (i : Value) (wr : World) : Prop :=
  ∃ (j : Nat) (A : Nat → Prop), i = .int .i64 j ∧ j ≤ n.ents.length ∧ J (s0 + (tot σ fuel P n j).length) A wr ∧ wr.ownsRow (W0.heap.size + 1) 9 1 ka n.ents.length ((n.ents.map (·.1)).map encStr) ∧ (∀ q, ka.ownBlock = some q → ¬ A q) ∧ Fr A0 W0 wr ∧ (∀ k, A k → A0 k ∨ W0.heap.size ≤ k)
set_option maxRecDepth 100000 in
set_option maxHeartbeats 8000000 in
theorem below_any {σ : FSt} {f : Nat} {S : Nat → Prop} {p : Nat → Nat} {L : List EntQ} {l : Nat} {J : Nat → (Nat → Prop) → World → Prop} {Jx : (Nat → Prop) → World → Prop} (hV : Inv σ 0) (hcap : CapB σ)
    (hJI : ∀ s A W, J s A W → FilesAt W f σ S p) (hJf : ∀ s (A : Nat → Prop) W W', J s A W → Fr (fun k => ¬ A k) W W' → J s A W') (hJA : ∀ s A W, J s A W → ∀ k, A k → k < W.heap.size) (hY : YieldsTo L l J Jx) :
    ∀ (fuel i d s : Nat) (P : List UInt8) (A : Nat → Prop) (W : World) (rest : List EntQ) (n : Nd), σ.nd i = some n → n.d = true → Dep σ 0 1 i d → d + fuel = 101 → P.length ≤ 33 * d → L.drop s = treeF σ fuel P i ++ rest → J s A W →
    Calls Tryz.prog 87 #[.pointer (some ⟨p i, 0, none⟩), .string (baL P), .func (.yield l) #[] #[]] W (BelowPost J Jx A W (s + (treeF σ fuel P i).length))
  | 0, i, d, s, P, A, W, rest, n, hn, hd, hdep, hfu, hP, hL, hJ0 => by
    have := hdep.short (hJI _ _ _ hJ0).live
    omega
  | fuel + 1, i, d, s, P, A, W, rest, n, hn, hd, hdep, hfu, hP, hL, hJ0 => by
    have IH := hide (below_any hV hcap hJI hJf hJA hY fuel)
    have hA0 := hJI _ _ _ hJ0
    have hdl := hdep.short hA0.live
    rw [tot_all hn] at hL ⊢
    obtain ⟨dv0, ev0, pv0, hN0⟩ := hA0.node hn
    obtain ⟨-, mk, rfl, hsm⟩ := hN0.dir hd
    have hel := (hcap i n hn).2.2
    have c6 : W.cell? ⟨p i, 6, none⟩ = some (.map (some mk)) := by rw [blk_cell hN0.hb]; rfl
    have hK := hide (callsIn_wide.1 (Tryz.maps_Keys_69 (some mk) W))
    have hS := hide (callsIn_wide.1 (Tryz.slices_Sorted_keys_68_69 mk (kmap (fun _ k => Value.pointer (some ⟨p k, 0, none⟩)) n.ents).length (dOf (kmap (fun _ k => Value.pointer (some ⟨p k, 0, none⟩)) n.ents)) rV W hsm.own (by rw [dOf_size, kmap_length]; unfold maxLen; omega) (by rw [dOf_size, kmap_length]; omega)))
    have hsrt := hide hsm.sorted
    have HJ0 := hide hJ0
    have HL := hide hL
    have Hn := hide hn
    have Hd := hide hd
    have Hdep := hide hdep
    clear hJ0 hL hn hd hdep hA0 hN0 hsm
    refine (callsIn_wide (n := 8)).1 ?_
    refine callsIn_of_wp Tryz.func87 rfl trivial ?_ rfl
    simp only [Tryz.ntmps87, List.size_toArray, List.length_cons, List.length_nil, Nat.reduceAdd, Nat.reduceSub, Array.replicate_succ, Array.replicate_zero, List.push_toArray, List.append_toArray, List.nil_append, List.cons_append]
    gi_wp2_with (refine ⟨trivial, ?_⟩; first
      | (gi_at_call 69; refine (callsIn_wide.2 hK.out).mono ?_; rintro e w1 ⟨rfl, rfl⟩)
      | (gi_at_call 68; refine (callsIn_wide.2 hS.out).mono ?_; rintro e w2 ⟨v, ss, rfl, hp, hrow, _, hb2⟩; rw [dOf_keys] at hp; rw [sorted_keys hsrt.out hp, kmap_keys, show ss.length = n.ents.length from (by rw [hp.length_eq]; simp [kmap_length])] at hrow; clear hp; obtain ⟨va, vc, rfl⟩ := own_form hrow))
    have hfW : Fr (fun _ => False) W w2 := ((Fr.refl _ _).alloc _).trans (Fr.of_below hb2 _)
    have hJ2 := hJf _ _ _ _ HJ0.out (hfW.mono (fun _ _ e => e.elim))
    have hvb : ∀ q, (Value.slice va n.ents.length vc).ownBlock = some q → W.heap.size < q := fun q e => by have := (hrow.lt q e).1; simp at this; omega
    have h0 : BRel σ fuel P n s A W J (.slice va n.ents.length vc) (.int .i64 0) w2 := ⟨0, A, rfl, by omega, by simpa [tot] using hJ2, by simpa using hrow, fun q e h => by have := hvb q e; have := hJA _ _ _ HJ0.out q h; omega, hfW.mono (fun _ _ e => e.elim), fun k hk => .inl hk⟩
    have h0 := hide h0
    clear hfW hJ2 hvb hrow hb2 hK hS c6
    gi_loopw [17] (fun i wr => BRel σ fuel P n s A W J (.slice va n.ents.length vc) i wr) (fun i _ => n.ents.length - (intOf i).toNat)
    case atStart => exact h0.out
    case round =>
      clear h0 HJ0
      obtain ⟨j, A1, rfl, hj, hJ, hrow, hnA, hfr, hAA⟩ := hrel
      by_cases hlt : j < n.ents.length
      · obtain ⟨g, rfl, hg1, hg2, hc⟩ := own_cells hrow (by omega)
        have hck := hc j (.string (baL n.ents[j].1)) (by simp [encStr, hlt, baL])
        have hA := hJI _ _ _ hJ
        have hlv := hA.live
        obtain ⟨dv, ev, pv, hN⟩ := hA.node Hn.out
        have hnl := hlv.names _ _ Hn.out _ (List.getElem_mem hlt)
        have hkg := kget_of_mem (hV.srt _ _ Hn.out) (List.getElem_mem hlt)
        obtain ⟨m, hm⟩ := Option.isSome_iff_exists.1 (hlv.ents _ _ Hn.out _ (List.getElem_mem hlt))
        have htot := tot_succ σ fuel P n j hlt
        obtain ⟨r, hr⟩ := tot_part σ fuel P n j hlt
        have hLd := HL.out
        rw [hr] at hLd
        generalize n.ents[j] = x at *
        obtain ⟨nm, k⟩ := x
        simp only at hck hnl hkg hm htot hLd
        have hLs : L.drop (s + (tot σ fuel P n j).length) = entL σ (treeF σ fuel) P (nm, k) ++ (r ++ rest) := by
          rw [← List.drop_drop, hLd, List.append_assoc, List.drop_left, List.append_assoc]
        obtain ⟨el, hel', hel1, hel2⟩ : ∃ el, entL σ (treeF σ fuel) P (nm, k) = entQ P nm m :: el ∧ (m.d = false → el = []) ∧ (m.d = true → el = treeF σ fuel (P ++ nm ++ [slashB]) k) := by
          cases hmd : m.d with
          | false => exact ⟨_, entL_file hm hmd, fun _ => rfl, fun e => (by cases e)⟩
          | true => exact ⟨_, entL_dir hm hmd, fun e => (by cases e), fun _ => rfl⟩
        have hsl : s + (tot σ fuel P n j).length < L.length := by
          apply Decidable.byContradiction
          intro hge
          rw [List.drop_eq_nil_of_le (by omega), hel'] at hLs
          cases hLs
        have hat : L[s + (tot σ fuel P n j).length] = entQ P nm m := by
          have := congrArg (fun l => l[0]?) hLs
          rw [hel'] at this
          simpa [List.getElem?_drop, hsl] using this
        obtain ⟨mk', rfl, hlk⟩ := Hlook hN Hd.out
        have hlk := hlk (baL nm) (by unfold maxLen baL; simp [ByteArray.size]; omega) wr (Fr.refl _ _)
        rw [show (baL nm).data.toList = nm from rfl, hkg] at hlk
        simp only [nodePtr] at hlk
        have d6 : wr.cell? ⟨p i, 6, none⟩ = some (.map (some mk')) := by rw [blk_cell hN.hb]; rfl
        obtain ⟨dvk, evk, pvk, hNk⟩ := hA.node hm
        have hbk := blk_drew hNk.hb
        have k1 : wr.drew.cell? ⟨p k, 1, none⟩ = some (.int .i64 (kindN m)) := by rw [blk_cell hbk]; rfl
        have k2 : wr.drew.cell? ⟨p k, 2, none⟩ = some (.int .i64 m.mode) := by rw [blk_cell hbk]; rfl
        have k5 : wr.drew.cell? ⟨p k, 5, none⟩ = some dvk := by rw [blk_cell hbk]; rfl
        have hdrew : Fr (fun _ => False) wr wr.drew := (Fr.refl _ _).drew
        have hconv := conv_data (hNk.data.frame hdrew (fun _ _ e => e))
        obtain ⟨da, dc, rfl⟩ := hNk.data.form
        have hcat : baL (P ++ nm) = baL P ++ baL nm := ba_of_data (by rw [ba_append]; simp [baL])
        have hz1 : (baL P).size ≤ 3300 := by simp [baL, ByteArray.size]; omega
        have hz2 : (baL nm).size ≤ 32 := by simpa [baL, ByteArray.size] using hnl
        have hyl := hY _ A1 wr.drew hsl (hJf _ _ _ _ hJ (hdrew.mono (fun _ _ e => e.elim)))
        rw [hat] at hyl
        obtain ⟨fn, tmps, assign, body, hy, hR⟩ := hyl
        simp only [eenc, entV, entQ, hcat] at hy hR
        have HR := hide hR
        have HJ := hide hJ
        have Hm := hide hm
        have Hrow := hide hrow
        have HnA := hide hnA
        have Hfr := hide hfr
        have HAA := hide hAA
        rw [hel'] at htot hLs
        have Htot := hide htot
        have HLs := hide hLs
        have Hkg := hide hkg
        have Hel1 := hide hel1
        have Hel2 := hide hel2
        have hwr : wr.drew.heap.size = wr.heap.size := rfl
        have hgq : ∀ q, (Value.slice (some ⟨g, 0, none⟩) n.ents.length vc).ownBlock = some q → q < wr.heap.size := fun q e => (hrow.lt q e).2
        have Hgq := hide hgq
        have hcat2 : baL (P ++ nm ++ [slashB]) = baL P ++ baL nm ++ (⟨#[47]⟩ : ByteArray) := ba_of_data (by rw [ba_append, ba_append]; simp [baL, slashB])
        have Hcat2 := hide hcat2
        have hnl' := hnl
        have hl1 : (0 : Int) ≤ (j : Int) := by omega
        have hl2 : (j : Int) < (n.ents.length : Int) := by omega
        clear hR hJ hm hrow hnA hfr hAA htot hLd hLs hel' hel1 hel2 hr hat hsl hN hA hNk hbk hkg hlv hc hgq hcat hcat2
        generalize hq1 : baL P = qP at *
        generalize hq2 : baL nm = qn at *
        generalize hq3 : baL m.data = qd at *
        generalize hq4 : kindN m = kd at *
        gi_wp2
        refine region_mix_in [0] [1, 2, 3, 4, 5, 6, 7, 8, 9, 10, 11, 12, 13, 14, 15, 16] 17 (by kernel_rfl) (by kernel_rfl) (by kernel_rfl) (fun _ _ d _ _ h => by cases d <;> exact h) ?_
        simp only [List.map_cons, List.map_nil, List.getD_cons_zero, List.getD_cons_succ, List.drop_succ_cons, List.drop_zero]
        repeat go_big_quiet_step (fail)
        refine wpQuiet_nil ?_
        repeat go_big_quiet_step (fail)
        refine wpQuiet_nil ?_
        gi_wp2
        refine HR.out.mono ?_
        rintro e W3 ⟨hf3, (⟨rfl, hJ3⟩ | ⟨rfl, hJx3⟩)⟩
        · have hs3 := hf3.size
          rw [hwr] at hs3 hJ3
          have hA3 := hJI _ _ _ hJ3
          obtain ⟨dv3, ev3, pv3, hN3⟩ := hA3.node Hm.out
          have hdir := hide (dir_any W3 p (p k) k m dv3 ev3 pv3 hN3)
          have hf3' : Fr A1 wr W3 := (hdrew.mono (fun _ _ e => e.elim)).trans hf3
          have hfr3 := hide (Hfr.out.trans' hf3' (fun q hq e => (HAA.out q e).resolve_right (by omega)))
          have hrow3 := hide (own_frame Hrow.out hf3' (fun q e => HnA.out q e))
          have HJ3 := hide hJ3
          clear hJ3 hA3 hN3 HR
          cases hmd : m.d with
          | false =>
            rw [hmd] at hdir
            have hnext : BRel σ fuel P n s A W J (.slice (some ⟨g, 0, none⟩) n.ents.length vc) (.int .i64 ((j : Int) + 1)) W3 :=
              ⟨j + 1, (fun k => A1 k ∨ (wr.heap.size ≤ k ∧ k < W3.heap.size)), by go_num, by omega, by
                have e : s + (tot σ fuel P n (j + 1)).length = s + (tot σ fuel P n j).length + 1 := by rw [Htot.out, Hel1.out hmd]; simp; omega
                rw [e]; exact HJ3.out, hrow3.out, fun q e h => h.elim (HnA.out q e) (fun h => by have := Hgq.out q e; omega), hfr3.out, fun q h => h.elim (HAA.out q) (fun h => .inr (by have := Hfr.out.size; omega))⟩
            have hnext := hide hnext
            clear hmd
            gi_wp2_with (refine ⟨trivial, ?_⟩; gi_at_call 64; refine (callsIn_wide.2 hdir.out).mono ?_; rintro e w' ⟨rfl, rfl⟩)
            refine ⟨trivial, ?_⟩
            gi_wp2
            go_roundw
            case rel => exact hnext.out
            case measure => simp [intOf]; omega
          | true =>
            rw [hmd] at hdir
            have hrec := IH.out k (d + 1) (s + (tot σ fuel P n j).length + 1) (P ++ nm ++ [slashB]) (fun k => A1 k ∨ (wr.heap.size ≤ k ∧ k < W3.heap.size)) W3 (r ++ rest) m Hm.out hmd (hV.deeper Hdep.out Hn.out Hkg.out Hm.out hmd) (by omega) (by simp; omega) (by
              rw [← List.drop_drop, HLs.out, ← Hel2.out hmd]; rfl) HJ3.out
            rw [Hcat2.out] at hrec
            have hrec := hide hrec
            have hel3 := Hel2.out hmd
            have hlen : s + (tot σ fuel P n (j + 1)).length = s + (tot σ fuel P n j).length + 1 + (treeF σ fuel (P ++ nm ++ [slashB]) k).length := by rw [Htot.out, hel3]; simp; omega
            have Hlen := hide hlen
            clear hmd hel3 hlen
            gi_wp2_with (refine ⟨trivial, ?_⟩; first
              | (gi_at_call 64; refine (callsIn_wide.2 hdir.out).mono ?_; rintro e w' ⟨rfl, rfl⟩)
              | (gi_at_call 87; refine (callsIn_wide.2 hrec.out).mono ?_; rintro e W4 ⟨hf4, (⟨rfl, A4, hJ4, hA4⟩ | ⟨rfl, A4, hJx4⟩)⟩))
            · have hfr4 := hfr3.out.trans' hf4 (fun q hq e => e.elim (fun e => (HAA.out q e).resolve_right (by omega)) (fun e => by have := Hfr.out.size; omega))
              have hnext : BRel σ fuel P n s A W J (.slice (some ⟨g, 0, none⟩) n.ents.length vc) (.int .i64 ((j : Int) + 1)) W4 :=
                ⟨j + 1, A4, by go_num, by omega, by rw [Hlen.out]; exact hJ4, own_frame hrow3.out hf4 (fun q e h => h.elim (HnA.out q e) (fun h => by have := Hgq.out q e; omega)),
                  fun q e h => (hA4 q h).elim (fun h => h.elim (HnA.out q e) (fun h => by have := Hgq.out q e; omega)) (fun h => by have := Hgq.out q e; omega), hfr4,
                  fun q h => (hA4 q h).elim (fun h => h.elim (HAA.out q) (fun h => .inr (by have := Hfr.out.size; omega))) (fun h => .inr (by have := Hfr.out.size; omega))⟩
              have hnext := hide hnext
              clear hJ4 hA4 hfr4 hf4 hrec
              gi_wp2
              go_roundw
              case rel => exact hnext.out
              case measure => simp [intOf]; omega
            · have hfr4 := hfr3.out.trans' hf4 (fun q hq e => e.elim (fun e => (HAA.out q e).resolve_right (by omega)) (fun e => by have := Hfr.out.size; omega))
              have hfin := hide (show BelowPost J Jx A W (s + (tot σ fuel P n n.ents.length).length) (.returned (.bool false)) W4 from ⟨hfr4, .inr ⟨rfl, _, hJx4⟩⟩)
              clear hJx4 hfr4 hf4 hrec
              gi_wp2
              refine bodyPost_ret (results_tmp rfl _ _ _) rfl ?_
              exact hfin.out
        · have hf3' : Fr A1 wr W3 := (hdrew.mono (fun _ _ e => e.elim)).trans hf3
          have hfr3 := Hfr.out.trans' hf3' (fun q hq e => (HAA.out q e).resolve_right (by omega))
          have hfin := hide (show BelowPost J Jx A W (s + (tot σ fuel P n n.ents.length).length) (.returned (.bool false)) W3 from ⟨hfr3, .inr ⟨rfl, _, hJx3⟩⟩)
          clear hJx3 hfr3 hf3' hf3 HR
          gi_wp2
          refine bodyPost_ret (results_tmp rfl _ _ _) rfl ?_
          exact hfin.out
      · have hje : j = n.ents.length := by omega
        subst hje
        have hfin := hide (show BelowPost J Jx A W (s + (tot σ fuel P n n.ents.length).length) (.returned (.bool true)) wr from ⟨hfr, .inl ⟨rfl, A1, hJ, hAA⟩⟩)
        have hkd : decide ((n.ents.length : Int) < (n.ents.length : Int)) = false := decide_eq_false (by omega)
        clear hrow hnA hJ hfr hAA
        gi_wp2
        refine bodyPost_ret (results_tmp rfl _ _ _) rfl ?_
        exact hfin.out
end Go.Proofs.YthikjdpnlahkfaaGreatDoor
