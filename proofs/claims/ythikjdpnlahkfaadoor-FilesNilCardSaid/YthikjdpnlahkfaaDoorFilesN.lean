/- files.FS.Read, Bytes. Conditions: the contracts' own premises. -/
import Derived.Test.YthikjdpnlahkfaaDoorFilesL
import Derived.Laws.IdiomStrings
namespace Go.Proofs.YthikjdpnlahkfaaDoor
open Go.RowKit

def readE (σ : FSt) (i at' n : Int) : Int := if fileE σ i ≠ 0 then fileE σ i else if at' < 0 ∨ n < 0 then 22 else 0
def dataI (σ : FSt) (i : Int) : List UInt8 := match σ.ndI i with | none => [] | some n => n.data
def readB (σ : FSt) (i at' n : Int) : List UInt8 := if readE σ i at' n ≠ 0 then [] else ((dataI σ i).drop at'.toNat).take n.toNat
theorem data_some {w : World} {v : Value} {l : List UInt8} (h : DataV w v l) (h0 : 0 < l.length) : ∃ g cap, v = .slice (some ⟨g, 0, none⟩) l.length cap ∧ l.length ≤ cap ∧ ∀ j (hj : j < l.length), w.cell? ⟨g, j, none⟩ = some (.int .u8 (l[j].toNat : Int)) := by
  rcases h with ⟨_, rfl⟩ | ⟨g, cap, cur, rfl, hg, hc1, hc2, hcur⟩
  · simp at h0
  · refine ⟨g, cap, rfl, hc1, fun j hj => ?_⟩
    rw [blk_cell hg]
    have h1 : (cur.toList.take l.length)[j]? = (l.map fun c => Value.int .u8 c.toNat)[j]? := by rw [hcur]
    rw [List.getElem?_take_of_lt hj, Array.getElem?_toList] at h1
    rw [h1]
    simp [hj]
theorem cut_lh {g n cap a q : Nat} (hq : a + q ≤ n) (ha : a < n) (hn : n ≤ cap) : ∀ w', (Instr.sliceAt 71 (.slice (some ⟨g, 0, none⟩) n cap) (some (.int .i64 a)) (some (.int .i64 ((a : Int) + (q : Int)))) none).run Tryd.prog w' = .ok (.slice (some ⟨g, a, none⟩) q (cap - a)) w' := by
  intro w'
  have hsz : ∀ w', (sizeOf 5).run Tryd.prog w' = .ok 1 w' := fun w' => by kernel_rfl
  have he : Tryd.prog.elem 71 = 5 := by kernel_rfl
  have ht : Tryd.prog.underlying 71 = some (.slice (Tryd.prog.elem 71)) := by kernel_rfl
  rw [run_sliceAt_slice (h := ht), run_slice_lh (ht := ht) (h0 := by omega) (h1 := by omega) (h2 := by omega), he, hsz]
  have e1 : ((a : Int) + (q : Int)).toNat = a + q := by omega
  have e2 : ((a : Int)).toNat = a := by omega
  simp only [Result.andThen_ok, sliced, e1, e2, Nat.mul_one, Option.map_some]
  rw [if_neg (by omega), show a + q - a = q by omega]
  have hadd : (⟨g, 0, none⟩ : Addr).add a = ⟨g, a, none⟩ := by unfold Addr.add; split <;> simp_all
  rw [hadd]
theorem conv_bytes {w : World} {g a : Nat} (l : List UInt8) (hc : ∀ j (hj : j < l.length), w.cell? ⟨g, a + j, none⟩ = some (.int .u8 (l[j].toNat : Int))) (cap : Nat) :
    (convert 71 9 (.slice (some ⟨g, a, none⟩) l.length cap)).run Tryd.prog w = .ok (.string ⟨l.toArray⟩) w :=
  run_convert_bytes_back w 71 9 5 ⟨g, a, none⟩ cap l (by kernel_rfl) (by kernel_rfl) (by kernel_rfl) (fun j hj => by
    have hadd : (⟨g, a, none⟩ : Addr).add j = ⟨g, a + j, none⟩ := by unfold Addr.add; split <;> simp_all
    rw [hadd]
    exact hc j hj)
set_option maxRecDepth 100000 in
set_option maxHeartbeats 2000000 in
theorem Read_any (w : World) (f : Nat) (σ : FSt) (S : Nat → Prop) (p : Nat → Nat) (h : FilesAt w f σ S p) (i at' n : Int) (hi : -9223372036854775808 ≤ i ∧ i ≤ 9223372036854775807) (ha : -9223372036854775808 ≤ at' ∧ at' ≤ 9223372036854775807) (hn : -9223372036854775808 ≤ n ∧ n ≤ 9223372036854775807) :
    Calls Tryd.prog 13 #[.pointer (some ⟨f, 0, none⟩), .int .i64 i, .int .i64 at', .int .i64 n] w fun e w' => e = .returned (.tuple #[.string ⟨(readB σ i at' n).toArray⟩, .int .i64 (readE σ i at' n)]) ∧ Fr (fun _ => False) w w' := by
  have hfile := file_any w f σ S p h i hi
  by_cases hE : fileE σ i = 0
  · obtain ⟨k, nd, rfl, hk, hd⟩ := fileE_zero hE
    by_cases hneg : at' < 0 ∨ n < 0
    · have e1 : readE σ k at' n = 22 := by unfold readE; rw [if_neg (by simp [hE]), if_pos hneg]
      have e2 : readB σ k at' n = [] := by unfold readB; rw [e1]; rfl
      rw [e1, e2]
      have hfile := hide hfile
      rcases hneg with hneg | hneg
      · go_enter Tryd.func13, Tryd.ntmps13
        go_wp2_with fail
        refine hfile.out.mono ?_
        rintro e w1 ⟨a, rfl, rfl, ha⟩
        rw [hE] at ha ⊢
        clear hfile
        go_wp2_with fail
        go_returns
        exact ⟨rfl, Fr.refl _ _⟩
      · by_cases hat : at' < 0
        · go_enter Tryd.func13, Tryd.ntmps13
          go_wp2_with fail
          refine hfile.out.mono ?_
          rintro e w1 ⟨a, rfl, rfl, ha⟩
          rw [hE] at ha ⊢
          clear hfile
          go_wp2_with fail
          go_returns
          exact ⟨rfl, Fr.refl _ _⟩
        · go_enter Tryd.func13, Tryd.ntmps13
          go_wp2_with fail
          refine hfile.out.mono ?_
          rintro e w1 ⟨a, rfl, rfl, ha⟩
          rw [hE] at ha ⊢
          clear hfile
          go_wp2_with fail
          go_returns
          exact ⟨rfl, Fr.refl _ _⟩
    · have hp1 : ¬ at' < 0 := fun e => hneg (.inl e)
      have hp2 : ¬ n < 0 := fun e => hneg (.inr e)
      obtain ⟨x, rfl⟩ : ∃ x : Nat, at' = x := ⟨at'.toNat, by omega⟩
      obtain ⟨y, rfl⟩ : ∃ y : Nat, n = y := ⟨n.toNat, by omega⟩
      have e1 : readE σ k x y = 0 := by unfold readE; rw [if_neg (by simp [hE]), if_neg hneg]
      have ed : dataI σ k = nd.data := by
        have : σ.ndI (k : Int) = some nd := by
          unfold FSt.ndI
          obtain ⟨h0, _⟩ := FSt.nd_lt (show (σ.nd k).isSome = true by rw [hk]; rfl)
          rw [if_pos (by omega)]
          simpa using hk
        unfold dataI; rw [this]
      have e2 : readB σ k x y = (nd.data.drop x).take y := by unfold readB; rw [e1, ed]; simp
      rw [e1, e2]
      obtain ⟨dvn, evn, pvn, hnd⟩ := h.node hk
      have hlive := h.live
      have hbyts := hlive.byts
      have hdl := byts_nd hk
      have hfile := hide hfile
      obtain ⟨da, dc, hdv⟩ := hnd.data.form
      have c5 : w.cell? ⟨p k, 5, none⟩ = some (.slice da nd.data.length dc) := by rw [blk_cell hnd.hb, hdv]; rfl
      by_cases hx : nd.data.length ≤ x
      · have e3 : (nd.data.drop x).take y = [] := by rw [List.drop_of_length_le hx, List.take_nil]
        rw [e3]
        have hxI : (nd.data.length : Int) ≤ (x : Int) := by omega
        clear hneg e2 e3 ed
        go_enter Tryd.func13, Tryd.ntmps13
        go_wp2_with fail
        refine hfile.out.mono ?_
        rintro e w1 ⟨a, rfl, rfl, ha⟩
        rw [hE] at ha ⊢
        obtain rfl := ha rfl
        clear hfile
        simp only [Int.toNat_natCast]
        go_wp2_with fail
        go_returns
        exact ⟨rfl, Fr.refl _ _⟩
      · obtain ⟨g, cap, hv2, hcap, hcells⟩ := data_some hnd.data (by omega)
        rw [hdv] at hv2
        cases hv2
        have hxI : ¬ (nd.data.length : Int) ≤ (x : Int) := by omega
        obtain ⟨q, hq⟩ : ∃ q, q = min y (nd.data.length - x) := ⟨_, rfl⟩
        have e3 : (nd.data.drop x).take y = (nd.data.drop x).take q := by
          rw [hq]
          by_cases hy : y ≤ nd.data.length - x
          · rw [Nat.min_eq_left hy]
          · rw [Nat.min_eq_right (by omega), List.take_of_length_le (by simp; omega), List.take_of_length_le (by simp)]
        rw [e3]
        have hqI : min (y : Int) ((nd.data.length : Int) - (x : Int)) = (q : Int) := by omega
        have hql : ((nd.data.drop x).take q).length = q := by simp; omega
        have hcut := cut_lh (g := g) (n := nd.data.length) (cap := dc) (a := x) (q := q) (by omega) (by omega) hcap
        have hconv := conv_bytes (w := w.drew) (g := g) (a := x) ((nd.data.drop x).take q) (fun j hj => by
          rw [List.getElem_take, List.getElem_drop]
          exact hcells (x + j) (by omega)) (dc - x)
        rw [hql] at hconv
        have c5d : w.drew.cell? ⟨p k, 5, none⟩ = some (.slice (some ⟨g, 0, none⟩) nd.data.length dc) := c5
        have hconv' : (convert 71 9 (.slice (some ⟨g, x, none⟩) q (dc - x))).run Tryd.prog w.drew = .ok (.string ⟨((nd.data.drop x).take q).toArray⟩) w.drew := hconv
        generalize (⟨((nd.data.drop x).take q).toArray⟩ : ByteArray) = res at *
        clear hneg e2 e3 ed hcells hql hconv hx
        have hq64 : (q : Int) ≤ 65536 := by omega
        clear hq
        go_enter Tryd.func13, Tryd.ntmps13
        go_wp2_with fail
        refine hfile.out.mono ?_
        rintro e w1 ⟨a, rfl, rfl, ha⟩
        rw [hE] at ha ⊢
        obtain rfl := ha rfl
        clear hfile
        simp only [Int.toNat_natCast]
        go_wp2_with fail
        refine region_still (by kernel_rfl) (by kernel_rfl) ?_
        repeat go_big_quiet_step (fail)
        refine wpQuiet_nil ?_
        go_wp2_with fail
        go_returns
        exact ⟨rfl, (Fr.refl _ _).drew⟩
  · have e1 : readE σ i at' n = fileE σ i := by unfold readE; rw [if_pos hE]
    have e2 : readB σ i at' n = [] := by unfold readB; rw [e1, if_pos hE]
    rw [e1, e2]
    have hfile := hide hfile
    go_enter Tryd.func13, Tryd.ntmps13
    go_wp2_with fail
    refine hfile.out.mono ?_
    rintro e w1 ⟨a, rfl, rfl, _⟩
    clear hfile
    go_wp2_with fail
    go_returns
    exact ⟨rfl, Fr.refl _ _⟩
end Go.Proofs.YthikjdpnlahkfaaDoor
