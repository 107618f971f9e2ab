/- The walk of PipeEnds: it returns true and leaves old memory as it was. Conditions: the calls read as a row of structs. -/
import Derived.Test.YtcoaggghabdndaaPipeRuns
namespace Go.Proofs.Ytcoaggghabdndaa
open Go.RowKit

theorem pwaits_w' (b lb size : Nat) (d : List UInt8) (r x : Nat) (w : World) (h : PipeAt w b lb size d r x) :
    Calls Try.prog 22 #[.pointer (some ⟨b, 0, none⟩), .bool true] w fun e w' => e = .returned (.bool (decide ((0 : Int) < (r : Int)) && ((d.length : Int) == (size : Int)))) ∧ w' = w.drew :=
  (pwaits_w b lb size d r x w h).mono fun e w' ⟨h1, h2⟩ => ⟨by rw [h1, cast_beq]; simp, h2⟩
theorem pwaits_r' (b lb size : Nat) (d : List UInt8) (r x : Nat) (w : World) (h : PipeAt w b lb size d r x) :
    Calls Try.prog 22 #[.pointer (some ⟨b, 0, none⟩), .bool false] w fun e w' => e = .returned (.bool (decide ((0 : Int) < (x : Int)) && ((d.length : Int) == 0))) ∧ w' = w :=
  (pwaits_r b lb size d r x w h).mono fun e w' ⟨h1, h2⟩ => ⟨by rw [h1]; have := cast_beq d.length 0; simp at this; simp [this], h2⟩

def OneRel (W : World) (b lb size len gk : Nat) (i : Value) (w : World) : Prop := ∃ k : Nat, gk + k = len ∧ k ≤ 200 ∧ i = .int .i64 k ∧ ∃ d r x, PipeAt w b lb size d r x ∧ r ≤ k ∧ x ≤ k ∧ Fr (fun _ => False) W w
def OneCut (W : World) (b lb size k c : Nat) (o : Obj) (w : World) : Prop := ∃ d r x, PipeAt w b lb size d r x ∧ r ≤ k ∧ x ≤ k ∧ Fr (fun _ => False) W w ∧ w.heap[c]? = some o

theorem wrE_no (size : Nat) (d : List UInt8) (r : Nat) (s : List UInt8) (hr : 0 < r) : (wrE size d r s == 32) = false := by
  unfold wrE
  rw [if_neg (by omega)]
  split <;> rfl
theorem rd_neg {d : List UInt8} {x : Nat} {n : Int} (h : n < 0) : rdS d x n = [] ∧ rdE d x n = 22 := by simp [rdS, rdE, h]
theorem rd_again {d : List UInt8} {x : Nat} {n : Int} (h : 0 < n) (hd : d.length = 0) (hx : 0 < x) : rdS d x n = [] ∧ rdE d x n = 11 := by
  have := List.length_eq_zero_iff.1 hd
  have h' : ¬ n < 0 := by omega
  simp [rdS, rdE, h, h', this, hx]
theorem rd_some {d : List UInt8} {x : Nat} {n : Int} (h : 0 ≤ n) (hno : ¬ (0 < n ∧ d.length = 0 ∧ 0 < x)) : (rdS d x n).length = min n.toNat d.length ∧ rdE d x n = 0 := by
  have h1 : ¬ n < 0 := by omega
  have h2 : ¬ (0 < n ∧ d = [] ∧ 0 < x) := fun ⟨a, b, c⟩ => hno ⟨a, by rw [b]; rfl, c⟩
  unfold rdS rdE
  rw [if_neg h1, if_neg h2, if_neg h1, if_neg h2]
  exact ⟨List.length_take, rfl⟩
/-- Write, as the law looks at it. -/
theorem pwrite_law (b lb size : Nat) (d : List UInt8) (r x : Nat) (w : World) (h : PipeAt w b lb size d r x) (s : ByteArray) (hs : s.size ≤ 9223372036854775807) (m ev : Int)
    (hm : m = (wrN size d r s.data.toList : Nat)) (hv : ev = wrE size d r s.data.toList) :
    Calls Try.prog 16 #[.pointer (some ⟨b, 0, none⟩), .string s] w fun e w' => e = .returned (.tuple #[.int .i64 m, .int .i64 ev]) ∧ (∃ d', PipeAt w' b lb size d' r x ∧ (d'.length : Int) = d.length + m) ∧ Fr (fun k => k = b ∨ k = lb) w w' :=
  (pwrite_any b lb size d r x w h s hs).mono fun e w' ⟨h1, h2, h3⟩ => ⟨by rw [h1, hm, hv], ⟨_, h2, by
    rw [hm, List.length_append, List.length_take]
    have : wrN size d r s.data.toList ≤ s.data.toList.length := by unfold wrN; split <;> omega
    rw [Nat.min_eq_left this]; push_cast; rfl⟩, h3⟩
/-- Read, as the law looks at it. -/
theorem pread_law (b lb size : Nat) (d : List UInt8) (r x : Nat) (w : World) (h : PipeAt w b lb size d r x) (n : Int) (hn : n ≤ 9223372036854775807) (m ev : Int)
    (hm : m = ((rdS d x n).length : Nat)) (hv : ev = rdE d x n) :
    Calls Try.prog 18 #[.pointer (some ⟨b, 0, none⟩), .int .i64 n] w fun e w' => (∃ s : ByteArray, e = .returned (.tuple #[.string s, .int .i64 ev]) ∧ (s.size : Int) = m) ∧ (∃ d', PipeAt w' b lb size d' r x ∧ (d'.length : Int) = d.length - m) ∧ Fr (fun k => k = b) w w' :=
  (pread_any b lb size d r x w h n hn).mono fun e w' ⟨h1, h2, h3⟩ => ⟨⟨⟨(rdS d x n).toArray⟩, by rw [h1, hv], by rw [hm, ← ba_len]⟩, ⟨_, h2, by
    rw [hm, List.length_drop]
    have : (rdS d x n).length ≤ d.length := by
      unfold rdS
      split
      · simp
      · split
        · simp
        · exact List.length_take_le' _ _
    omega⟩, h3⟩

set_option maxRecDepth 100000 in
set_option maxHeartbeats 6000000 in
theorem pends_walk (size : Int) (a : Option Addr) (len cap : Nat) (W : World) (hc : CallRow W a len) :
    Calls Try.prog 6 #[.int .i64 size, .slice a len cap] W (LawPost W) := by
  go_enter Try.func6, Try.ntmps6
  go_wp2_with fail
  refine (pawake_any _).mono ?_
  rintro e w1 ⟨rfl, hf1⟩
  go_wp2_with fail
  refine (pnew_any _ _).mono ?_
  rintro e w2 ⟨hf2, (⟨hs, rfl⟩ | ⟨hs, b, lb, hb, hlb, rfl, hp1⟩)⟩
  · by_cases h1 : size < 1
    · go_wp2_with fail
      go_ret
      exact ⟨rfl, (hf1.trans hf2).below (fun _ _ h => h)⟩
    · have h2 : 65536 < size := by omega
      go_wp2_with fail
      go_ret
      exact ⟨rfl, (hf1.trans hf2).below (fun _ _ h => h)⟩
  obtain ⟨sz, rfl⟩ : ∃ sz : Nat, size = sz := ⟨size.toNat, by omega⟩
  rw [Int.toNat_natCast] at hp1
  go_wp2_with fail
  have hlen := hc.1
  have hz1 := hf1.size
  have hz2 := hf2.size
  have hbl : b ≠ lb := hp1.choose_spec.choose_spec.hne
  have hW3 : Fr (fun _ => False) W w2 := hf1.trans hf2
  go_loopg [35] len (fun gk i wr => OneRel W b lb sz len gk i wr)
  case atStart => exact ⟨0, by omega, by omega, rfl, [], 0, 0, hp1, Nat.le_refl _, Nat.le_refl _, hW3⟩
  case round =>
    clear hp1 hW3
    obtain ⟨k, hgk, hk200, rfl, d, r, x, hp, hrk, hxk, hfr⟩ := hrel
    have Hgk := hide hgk
    clear hgk
    by_cases hlt : k < len
    · obtain ⟨cb, co, rfl, hrow⟩ := hc.2.resolve_left (by omega)
      obtain ⟨what, n, cw, txt, c0, c1, c2, c3, hn, htx⟩ := hrow k hlt
      have d0 : wr.cell? ⟨cb, co + k * 4, none⟩ = some (.int .i64 what) := by rw [World.cell?_of_block (w := W) (hfr.block _ (World.block_lt_of_cell? _ _ c0) (fun h => h))]; exact c0
      have d1 : wr.cell? ⟨cb, co + k * 4 + 1, none⟩ = some (.int .i64 n) := by rw [World.cell?_of_block (w := W) (hfr.block _ (World.block_lt_of_cell? _ _ c1) (fun h => h))]; exact c1
      have d2 : wr.cell? ⟨cb, co + k * 4 + 2, none⟩ = some (.bool cw) := by rw [World.cell?_of_block (w := W) (hfr.block _ (World.block_lt_of_cell? _ _ c2) (fun h => h))]; exact c2
      have d3 : wr.cell? ⟨cb, co + k * 4 + 3, none⟩ = some (.string txt) := by rw [World.cell?_of_block (w := W) (hfr.block _ (World.block_lt_of_cell? _ _ c3) (fun h => h))]; exact c3
      clear hrow c0 c1 c2 c3
      by_cases h200 : k = 200
      · subst h200
        go_wp2_with fail
        go_ret
        exact ⟨rfl, (hfr.trans ((Fr.refl _ _).alloc _)).below (fun _ _ h => h)⟩
      · have hpl := hp.lt
        have hWs := hfr.size
        obtain ⟨ob, hob⟩ : ∃ ob : Obj, ob = .cells #[.int .i64 what, .int .i64 n, .bool cw, .string txt] 51 (0, 0) := ⟨_, rfl⟩
        obtain ⟨wa, hwa⟩ : ∃ wa, wa = wr.alloc (.cells #[.int .i64 what, .int .i64 n, .bool cw, .string txt] 51) := ⟨_, rfl⟩
        have hfa : Fr (fun _ => False) wr wa := by rw [hwa]; exact (Fr.refl _ _).alloc _
        have hca : wa.heap[wr.heap.size]? = some ob := by rw [hwa, hob]; exact blk_new _ _
        have hpa := hp.frame hfa (fun h => h) (fun h => h)
        have e0 : wa.cell? ⟨wr.heap.size, 0, none⟩ = some (.int .i64 what) := by rw [hob] at hca; rw [blk_cell hca]; rfl
        have e2 : wa.cell? ⟨wr.heap.size, 2, none⟩ = some (.bool cw) := by rw [hob] at hca; rw [blk_cell hca]; rfl
        have Hwa := hide hwa
        have Hob := hide hob
        clear hwa hob
        go_upto_block 2 with fail
        go_cut [] (fun wc => OneCut W b lb sz (k + 1) wr.heap.size ob wc)
        case first =>
          rw [← Hwa.out]
          clear d0 d1 d2 d3 Hwa
          have hfrA : Fr (fun _ => False) W wa := hfr.trans hfa
          have hsa := hfa.size
          have Hca := hide hca
          clear hca
          go_wp2_with fail
          · refine (popen_any _ _ _ _ _ _ _ hpa (by omega) (by omega) _).mono ?_
            rintro e w4 ⟨rfl, hp4, hf4⟩
            go_wp2_with fail
            go_meet
            case rel => exact ⟨_, _, _, hp4, by split <;> omega, by split <;> omega, hfrA.trans' hf4 (fun i hi e => by omega), hf4.get Hca.out (by omega)⟩
          · refine (pclose_any _ _ _ _ _ _ _ hpa (by omega) (by omega) _).mono ?_
            rintro e w4 ⟨rfl, hp4, hf4⟩
            go_wp2_with fail
            go_meet
            case rel => exact ⟨_, _, _, hp4, by split <;> omega, by split <;> omega, hfrA.trans' hf4 (fun i hi e => by omega), hf4.get Hca.out (by omega)⟩
          · go_meet
            case rel => exact ⟨_, _, _, hpa, by omega, by omega, hfrA, Hca.out⟩
        case rest =>
          clear hp hpa d0 d1 d2 d3 e0 e2 hca Hwa hrk hxk
          obtain ⟨d, r, x, hp, hrk, hxk, hfr, hcc⟩ := hcut
          have hcell : ∀ w', Fr (fun k => k = b ∨ k = lb) wc w' → w'.heap[wr.heap.size]? = some ob := fun w' hw' => hw'.get hcc (by omega)
          have Hcell := hide hcell
          clear hcell
          rw [Hob.out] at hcc
          have e0 : wc.cell? ⟨wr.heap.size, 0, none⟩ = some (.int .i64 what) := by rw [blk_cell hcc]; rfl
          have e1 : wc.cell? ⟨wr.heap.size, 1, none⟩ = some (.int .i64 n) := by rw [blk_cell hcc]; rfl
          have e3 : wc.cell? ⟨wr.heap.size, 3, none⟩ = some (.string txt) := by rw [blk_cell hcc]; rfl
          clear hcc
          have hpl := hp.lt
          go_wp2_with fail
          refine (pends_any _ _ _ _ _ _ _ hp).mono ?_
          rintro e w4 ⟨rfl, rfl⟩
          have hp := hp.frame ((Fr.refl (fun _ => False) wc).drew) (fun h => h) (fun h => h)
          go_wp2_with fail
          refine (plen_any _ _ _ _ _ _ _ hp).mono ?_
          rintro e w4 ⟨rfl, rfl⟩
          go_upto_region 17 with fail
          go_cut [83] (fun s wx => s = .bool false ∧ wx = wc.drew.drew)
          case first =>
            have kw : ∀ v : Bool, v = (decide ((0 : Int) < (r : Int)) && ((d.length : Int) == (sz : Int))) → Calls Try.prog 22 #[.pointer (some ⟨b, 0, none⟩), .bool true] wc.drew fun e w' => e = .returned (.bool v) ∧ w' = wc.drew.drew :=
              fun v hv => by rw [hv]; exact pwaits_w' b lb sz d r x _ hp
            have kr : ∀ v : Bool, v = (decide ((0 : Int) < (x : Int)) && ((d.length : Int) == 0)) → Calls Try.prog 22 #[.pointer (some ⟨b, 0, none⟩), .bool false] wc.drew.drew fun e w' => e = .returned (.bool v) ∧ w' = wc.drew.drew :=
              fun v hv => by rw [hv]; exact pwaits_r' b lb sz d r x _ (hp.frame ((Fr.refl (fun _ => False) _).drew) (fun h => h) (fun h => h))
            have Kw := hide kw
            have Kr := hide kr
            clear kw kr hp hpl
            by_cases h1 : (0 : Int) < (r : Int)
            · by_cases h2 : (0 : Int) < (x : Int)
              · go_wp2_with fail
                refine (Kw.out ((d.length : Int) == (sz : Int)) (by simp; omega)).mono ?_
                rintro e w5 ⟨rfl, rfl⟩
                go_wp2_with fail
                refine (Kr.out ((d.length : Int) == 0) (by simp; omega)).mono ?_
                rintro e w5 ⟨rfl, rfl⟩
                go_wp2_with fail
                go_meet
                exact ⟨rfl, rfl⟩
              · have h2' : decide (0 < x) = false := by simpa using h2
                go_wp2_with fail
                refine (Kw.out ((d.length : Int) == (sz : Int)) (by simp; omega)).mono ?_
                rintro e w5 ⟨rfl, rfl⟩
                go_wp2_with fail
                refine (Kr.out false (by simp; omega)).mono ?_
                rintro e w5 ⟨rfl, rfl⟩
                go_wp2_with fail
                go_meet
                exact ⟨rfl, rfl⟩
            · have h1' : decide (0 < r) = false := by simpa using h1
              by_cases h2 : (0 : Int) < (x : Int)
              · go_wp2_with fail
                refine (Kw.out false (by simp; omega)).mono ?_
                rintro e w5 ⟨rfl, rfl⟩
                go_wp2_with fail
                refine (Kr.out ((d.length : Int) == 0) (by simp; omega)).mono ?_
                rintro e w5 ⟨rfl, rfl⟩
                go_wp2_with fail
                go_meet
                exact ⟨rfl, rfl⟩
              · have h2' : decide (0 < x) = false := by simpa using h2
                go_wp2_with fail
                refine (Kw.out false (by simp; omega)).mono ?_
                rintro e w5 ⟨rfl, rfl⟩
                go_wp2_with fail
                refine (Kr.out false (by simp; omega)).mono ?_
                rintro e w5 ⟨rfl, rfl⟩
                go_wp2_with fail
                go_meet
                exact ⟨rfl, rfl⟩
          case rest =>
            obtain ⟨rfl, rfl⟩ := hcut
            have hp := hp.frame ((Fr.refl (fun _ => False) _).drew) (fun h => h) (fun h => h)
            go_wp2_with fail
            · -- Write
              have hls := ba_len txt
              have hdl := hpl.2.2.1
              have hdz := hpl.2.2.2
              by_cases h1 : r = 0
              · subst h1
                by_cases h2 : txt.size ≤ sz - d.length
                · have h2' : (txt.size : Int) ≤ (sz : Int) - (d.length : Int) := by omega
                  refine (pwrite_law _ _ _ _ _ _ _ hp txt htx 0 32 (by simp [wrN]) (by simp [wrE])).mono ?_
                  rintro e w4 ⟨rfl, ⟨d', hp4, hd'⟩, hf4⟩
                  have hc4 := Hcell.out w4 (((Fr.refl _ _).drew.drew).trans hf4)
                  rw [Hob.out] at hc4
                  have e14 : w4.cell? ⟨wr.heap.size, 1, none⟩ = some (.int .i64 n) := by rw [blk_cell hc4]; rfl
                  have e34 : w4.cell? ⟨wr.heap.size, 3, none⟩ = some (.string txt) := by rw [blk_cell hc4]; rfl
                  clear hc4
                  have Hd' := hide hd'
                  clear hd'
                  go_wp2_with fail
                  refine (plen_any _ _ _ _ _ _ _ hp4).mono ?_
                  rintro e w5 ⟨rfl, rfl⟩
                  rw [Hd'.out]
                  go_wp2_with fail
                  go_roundg (gk - 1)
                  case measure => have := Hgk.out; omega
                  case rel => exact ⟨k + 1, by have := Hgk.out; omega, by omega, by go_num, _, _, _, hp4, hrk, hxk, (hfr.drew.drew).trans' hf4 (fun i hi e => by omega)⟩
                · have h2' : (sz : Int) - (d.length : Int) < (txt.size : Int) := by omega
                  refine (pwrite_law _ _ _ _ _ _ _ hp txt htx 0 32 (by simp [wrN]) (by simp [wrE])).mono ?_
                  rintro e w4 ⟨rfl, ⟨d', hp4, hd'⟩, hf4⟩
                  have hc4 := Hcell.out w4 (((Fr.refl _ _).drew.drew).trans hf4)
                  rw [Hob.out] at hc4
                  have e14 : w4.cell? ⟨wr.heap.size, 1, none⟩ = some (.int .i64 n) := by rw [blk_cell hc4]; rfl
                  have e34 : w4.cell? ⟨wr.heap.size, 3, none⟩ = some (.string txt) := by rw [blk_cell hc4]; rfl
                  clear hc4
                  have Hd' := hide hd'
                  clear hd'
                  go_wp2_with fail
                  refine (plen_any _ _ _ _ _ _ _ hp4).mono ?_
                  rintro e w5 ⟨rfl, rfl⟩
                  rw [Hd'.out]
                  go_wp2_with fail
                  go_roundg (gk - 1)
                  case measure => have := Hgk.out; omega
                  case rel => exact ⟨k + 1, by have := Hgk.out; omega, by omega, by go_num, _, _, _, hp4, hrk, hxk, (hfr.drew.drew).trans' hf4 (fun i hi e => by omega)⟩
              · have hr0 : 0 < r := by omega
                have hr1 : ((r : Int) == 0) = false := by rw [beq_eq_false_iff_ne]; omega
                have hev := wrE_no sz d r txt.data.toList hr0
                have hm : wrN sz d r txt.data.toList = min txt.size (sz - d.length) := by unfold wrN; rw [if_neg h1, hls]
                have Hm := hide hm
                clear hm h1 hls
                by_cases h2 : txt.size ≤ sz - d.length
                · have h2' : (txt.size : Int) ≤ (sz : Int) - (d.length : Int) := by omega
                  refine (pwrite_law _ _ _ _ _ _ _ hp txt htx (txt.size : Int) _ (by rw [Hm.out, Nat.min_eq_left h2]) rfl).mono ?_
                  rintro e w4 ⟨rfl, ⟨d', hp4, hd'⟩, hf4⟩
                  have hc4 := Hcell.out w4 (((Fr.refl _ _).drew.drew).trans hf4)
                  rw [Hob.out] at hc4
                  have e14 : w4.cell? ⟨wr.heap.size, 1, none⟩ = some (.int .i64 n) := by rw [blk_cell hc4]; rfl
                  have e34 : w4.cell? ⟨wr.heap.size, 3, none⟩ = some (.string txt) := by rw [blk_cell hc4]; rfl
                  clear hc4
                  have Hd' := hide hd'
                  clear hd'
                  go_wp2_with fail
                  refine (plen_any _ _ _ _ _ _ _ hp4).mono ?_
                  rintro e w5 ⟨rfl, rfl⟩
                  rw [Hd'.out]
                  go_wp2_with fail
                  go_roundg (gk - 1)
                  case measure => have := Hgk.out; omega
                  case rel => exact ⟨k + 1, by have := Hgk.out; omega, by omega, by go_num, _, _, _, hp4, hrk, hxk, (hfr.drew.drew).trans' hf4 (fun i hi e => by omega)⟩
                · have h2' : (sz : Int) - (d.length : Int) < (txt.size : Int) := by omega
                  refine (pwrite_law _ _ _ _ _ _ _ hp txt htx ((sz : Int) - (d.length : Int)) _ (by rw [Hm.out, Nat.min_eq_right (by omega)]; omega) rfl).mono ?_
                  rintro e w4 ⟨rfl, ⟨d', hp4, hd'⟩, hf4⟩
                  have hc4 := Hcell.out w4 (((Fr.refl _ _).drew.drew).trans hf4)
                  rw [Hob.out] at hc4
                  have e14 : w4.cell? ⟨wr.heap.size, 1, none⟩ = some (.int .i64 n) := by rw [blk_cell hc4]; rfl
                  have e34 : w4.cell? ⟨wr.heap.size, 3, none⟩ = some (.string txt) := by rw [blk_cell hc4]; rfl
                  clear hc4
                  have Hd' := hide hd'
                  clear hd'
                  go_wp2_with fail
                  refine (plen_any _ _ _ _ _ _ _ hp4).mono ?_
                  rintro e w5 ⟨rfl, rfl⟩
                  rw [Hd'.out]
                  go_wp2_with fail
                  go_roundg (gk - 1)
                  case measure => have := Hgk.out; omega
                  case rel => exact ⟨k + 1, by have := Hgk.out; omega, by omega, by go_num, _, _, _, hp4, hrk, hxk, (hfr.drew.drew).trans' hf4 (fun i hi e => by omega)⟩
            · -- Read
              by_cases h1 : n < 0
              · have hk := rd_neg (d := d) (x := x) h1
                refine (pread_law _ _ _ _ _ _ _ hp n hn 0 22 (by rw [hk.1]; rfl) (by rw [hk.2])).mono ?_
                rintro e w4 ⟨⟨sb, rfl, hsb⟩, ⟨d', hp4, hd'⟩, hf4⟩
                have hc4 := Hcell.out w4 (((Fr.refl _ _).drew.drew).trans (hf4.mono (fun _ _ e => .inl e)))
                rw [Hob.out] at hc4
                have e14 : w4.cell? ⟨wr.heap.size, 1, none⟩ = some (.int .i64 n) := by rw [blk_cell hc4]; rfl
                have e34 : w4.cell? ⟨wr.heap.size, 3, none⟩ = some (.string txt) := by rw [blk_cell hc4]; rfl
                clear hc4
                have Hd' := hide hd'
                clear hd'
                clear hk
                go_wp2_with fail
                refine (plen_any _ _ _ _ _ _ _ hp4).mono ?_
                rintro e w5 ⟨rfl, rfl⟩
                rw [Hd'.out]
                go_wp2_with fail
                go_roundg (gk - 1)
                case measure => have := Hgk.out; omega
                case rel => exact ⟨k + 1, by have := Hgk.out; omega, by omega, by go_num, _, _, _, hp4, hrk, hxk, (hfr.drew.drew).trans' hf4 (fun i hi e => by omega)⟩
              · have h0 : 0 ≤ n := by omega
                by_cases h2 : 0 < n
                · have h2' : decide ((0 : Int) < n) = true := by simpa using h2
                  by_cases h3 : d.length = 0
                  · have h3' : ((d.length : Int) == 0) = true := by rw [h3]; rfl
                    by_cases h4 : 0 < x
                    · have hk := rd_again (d := d) h2 h3 h4
                      have h4' : (0 : Int) < (x : Int) := by omega
                      refine (pread_law _ _ _ _ _ _ _ hp n hn 0 11 (by rw [hk.1]; rfl) (by rw [hk.2])).mono ?_
                      rintro e w4 ⟨⟨sb, rfl, hsb⟩, ⟨d', hp4, hd'⟩, hf4⟩
                      have hc4 := Hcell.out w4 (((Fr.refl _ _).drew.drew).trans (hf4.mono (fun _ _ e => .inl e)))
                      rw [Hob.out] at hc4
                      have e14 : w4.cell? ⟨wr.heap.size, 1, none⟩ = some (.int .i64 n) := by rw [blk_cell hc4]; rfl
                      have e34 : w4.cell? ⟨wr.heap.size, 3, none⟩ = some (.string txt) := by rw [blk_cell hc4]; rfl
                      clear hc4
                      have Hd' := hide hd'
                      clear hd'
                      clear hk
                      go_wp2_with fail
                      refine (plen_any _ _ _ _ _ _ _ hp4).mono ?_
                      rintro e w5 ⟨rfl, rfl⟩
                      rw [Hd'.out]
                      go_wp2_with fail
                      go_roundg (gk - 1)
                      case measure => have := Hgk.out; omega
                      case rel => exact ⟨k + 1, by have := Hgk.out; omega, by omega, by go_num, _, _, _, hp4, hrk, hxk, (hfr.drew.drew).trans' hf4 (fun i hi e => by omega)⟩
                    · have hk := rd_some (d := d) (x := x) h0 (fun hh => h4 hh.2.2)
                      have h4' : decide (0 < x) = false := by simpa using h4
                      refine (pread_law _ _ _ _ _ _ _ hp n hn 0 0 (by rw [hk.1, h3]; simp) (by rw [hk.2])).mono ?_
                      rintro e w4 ⟨⟨sb, rfl, hsb⟩, ⟨d', hp4, hd'⟩, hf4⟩
                      have hc4 := Hcell.out w4 (((Fr.refl _ _).drew.drew).trans (hf4.mono (fun _ _ e => .inl e)))
                      rw [Hob.out] at hc4
                      have e14 : w4.cell? ⟨wr.heap.size, 1, none⟩ = some (.int .i64 n) := by rw [blk_cell hc4]; rfl
                      have e34 : w4.cell? ⟨wr.heap.size, 3, none⟩ = some (.string txt) := by rw [blk_cell hc4]; rfl
                      clear hc4
                      have Hd' := hide hd'
                      clear hd'
                      clear hk
                      go_wp2_with fail
                      refine (plen_any _ _ _ _ _ _ _ hp4).mono ?_
                      rintro e w5 ⟨rfl, rfl⟩
                      rw [Hd'.out]
                      go_wp2_with fail
                      go_roundg (gk - 1)
                      case measure => have := Hgk.out; omega
                      case rel => exact ⟨k + 1, by have := Hgk.out; omega, by omega, by go_num, _, _, _, hp4, hrk, hxk, (hfr.drew.drew).trans' hf4 (fun i hi e => by omega)⟩
                  · have h3' : ((d.length : Int) == 0) = false := by rw [beq_eq_false_iff_ne]; omega
                    have hk := rd_some (d := d) (x := x) h0 (fun hh => h3 hh.2.1)
                    by_cases h5 : n ≤ (d.length : Int)
                    · have hm5 : min n.toNat d.length = n.toNat := Nat.min_eq_left (by omega)
                      rw [hm5] at hk
                      clear hm5
                      refine (pread_law _ _ _ _ _ _ _ hp n hn n 0 (by rw [hk.1]; omega) (by rw [hk.2])).mono ?_
                      rintro e w4 ⟨⟨sb, rfl, hsb⟩, ⟨d', hp4, hd'⟩, hf4⟩
                      have hc4 := Hcell.out w4 (((Fr.refl _ _).drew.drew).trans (hf4.mono (fun _ _ e => .inl e)))
                      rw [Hob.out] at hc4
                      have e14 : w4.cell? ⟨wr.heap.size, 1, none⟩ = some (.int .i64 n) := by rw [blk_cell hc4]; rfl
                      have e34 : w4.cell? ⟨wr.heap.size, 3, none⟩ = some (.string txt) := by rw [blk_cell hc4]; rfl
                      clear hc4
                      have Hd' := hide hd'
                      clear hd'
                      clear hk
                      go_wp2_with fail
                      refine (plen_any _ _ _ _ _ _ _ hp4).mono ?_
                      rintro e w5 ⟨rfl, rfl⟩
                      rw [Hd'.out]
                      go_wp2_with fail
                      go_roundg (gk - 1)
                      case measure => have := Hgk.out; omega
                      case rel => exact ⟨k + 1, by have := Hgk.out; omega, by omega, by go_num, _, _, _, hp4, hrk, hxk, (hfr.drew.drew).trans' hf4 (fun i hi e => by omega)⟩
                    · have hm5 : min n.toNat d.length = d.length := Nat.min_eq_right (by omega)
                      have h5' : (d.length : Int) < n := by omega
                      rw [hm5] at hk
                      clear hm5
                      refine (pread_law _ _ _ _ _ _ _ hp n hn (d.length : Int) 0 (by rw [hk.1]) (by rw [hk.2])).mono ?_
                      rintro e w4 ⟨⟨sb, rfl, hsb⟩, ⟨d', hp4, hd'⟩, hf4⟩
                      have hc4 := Hcell.out w4 (((Fr.refl _ _).drew.drew).trans (hf4.mono (fun _ _ e => .inl e)))
                      rw [Hob.out] at hc4
                      have e14 : w4.cell? ⟨wr.heap.size, 1, none⟩ = some (.int .i64 n) := by rw [blk_cell hc4]; rfl
                      have e34 : w4.cell? ⟨wr.heap.size, 3, none⟩ = some (.string txt) := by rw [blk_cell hc4]; rfl
                      clear hc4
                      have Hd' := hide hd'
                      clear hd'
                      clear hk
                      go_wp2_with fail
                      refine (plen_any _ _ _ _ _ _ _ hp4).mono ?_
                      rintro e w5 ⟨rfl, rfl⟩
                      rw [Hd'.out]
                      go_wp2_with fail
                      go_roundg (gk - 1)
                      case measure => have := Hgk.out; omega
                      case rel => exact ⟨k + 1, by have := Hgk.out; omega, by omega, by go_num, _, _, _, hp4, hrk, hxk, (hfr.drew.drew).trans' hf4 (fun i hi e => by omega)⟩
                · obtain rfl : n = 0 := by omega
                  have hk := rd_some (d := d) (x := x) (n := 0) (by omega) (fun hh => by omega)
                  rw [show min (0 : Int).toNat d.length = 0 by simp] at hk
                  refine (pread_law _ _ _ _ _ _ _ hp 0 hn 0 0 (by rw [hk.1]; rfl) (by rw [hk.2])).mono ?_
                  rintro e w4 ⟨⟨sb, rfl, hsb⟩, ⟨d', hp4, hd'⟩, hf4⟩
                  have hc4 := Hcell.out w4 (((Fr.refl _ _).drew.drew).trans (hf4.mono (fun _ _ e => .inl e)))
                  rw [Hob.out] at hc4
                  have e14 : w4.cell? ⟨wr.heap.size, 1, none⟩ = some (.int .i64 0) := by rw [blk_cell hc4]; rfl
                  have e34 : w4.cell? ⟨wr.heap.size, 3, none⟩ = some (.string txt) := by rw [blk_cell hc4]; rfl
                  clear hc4
                  have Hd' := hide hd'
                  clear hd'
                  clear hk
                  go_wp2_with fail
                  refine (plen_any _ _ _ _ _ _ _ hp4).mono ?_
                  rintro e w5 ⟨rfl, rfl⟩
                  rw [Hd'.out]
                  go_wp2_with fail
                  go_roundg (gk - 1)
                  case measure => have := Hgk.out; omega
                  case rel => exact ⟨k + 1, by have := Hgk.out; omega, by omega, by go_num, _, _, _, hp4, hrk, hxk, (hfr.drew.drew).trans' hf4 (fun i hi e => by omega)⟩
            · go_roundg (gk - 1)
              case measure => have := Hgk.out; omega
              case rel => exact ⟨k + 1, by have := Hgk.out; omega, by omega, by go_num, _, _, _, hp, hrk, hxk, hfr.drew.drew⟩
    · go_wp2_with fail
      go_ret
      exact ⟨rfl, hfr.below (fun _ _ h => h)⟩
end Go.Proofs.Ytcoaggghabdndaa
