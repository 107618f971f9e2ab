/- The walk of PipeRuns: it returns true and leaves old memory as it was. Conditions: the calls read as a row of structs. -/
import Derived.Test.YtcoaggghabdndaaPipeL
import Derived.Test.YtcoaggghabdndaaRegionTwo
import Derived.Test.YtcoaggghabdndaaPipeN
import Derived.Deep.DeepCutAuto
import Derived.Deep.LoopGhost
import Derived.Deep.CutBlock
namespace Go.Proofs.Ytcoaggghabdndaa
open Go.RowKit

/-- The argument: a row of calls. -/
def CallRow (W : World) (a : Option Addr) (len : Nat) : Prop :=
  len ≤ 9223372036854775807 ∧ (len = 0 ∨ ∃ cb co, a = some ⟨cb, co, none⟩ ∧ ∀ k, k < len → ∃ (what n : Int) (wr : Bool) (txt : ByteArray),
    W.cell? ⟨cb, co + k * 4, none⟩ = some (.int .i64 what) ∧ W.cell? ⟨cb, co + k * 4 + 1, none⟩ = some (.int .i64 n) ∧ W.cell? ⟨cb, co + k * 4 + 2, none⟩ = some (.bool wr) ∧ W.cell? ⟨cb, co + k * 4 + 3, none⟩ = some (.string txt) ∧
    n ≤ 9223372036854775807 ∧ txt.size ≤ 9223372036854775807)

def Both (W w : World) (b lb q size k : Nat) : Prop := ∃ d r x, PipeAt w b lb size d r x ∧ RefP w q size d r x ∧ r ≤ k ∧ x ≤ k ∧ Fr (fun _ => False) W w
def RunsRel (W : World) (b lb q size len gk : Nat) (i : Value) (w : World) : Prop := ∃ k : Nat, gk + k = len ∧ k ≤ 200 ∧ i = .int .i64 k ∧ Both W w b lb q size k
theorem PipeAt.lt {w : World} {b lb size : Nat} {d : List UInt8} {r x : Nat} (h : PipeAt w b lb size d r x) : b < w.heap.size ∧ lb < w.heap.size ∧ d.length ≤ size ∧ size ≤ 65536 := by
  obtain ⟨fm, cs, hp⟩ := h
  exact ⟨blk_lt hp.hb, blk_lt hp.hl, hp.hd, hp.hs⟩
theorem RefP.lt {w : World} {q size : Nat} {d : List UInt8} {r x : Nat} (h : RefP w q size d r x) : q < w.heap.size := by
  obtain ⟨s, _, hb⟩ := h
  exact blk_lt hb
/-- What Waits answers. -/
def pwB (c : Bool) (size : Nat) (d : List UInt8) (r x : Nat) : Bool := if c then decide (0 < r) && decide (d.length = size) else decide (0 < x) && decide (d.length = 0)
theorem pwaits_any (b lb size : Nat) (d : List UInt8) (r x : Nat) (w : World) (h : PipeAt w b lb size d r x) (c : Bool) :
    Calls Try.prog 22 #[.pointer (some ⟨b, 0, none⟩), .bool c] w fun e w' => e = .returned (.bool (pwB c size d r x)) ∧ ∃ n, w' = w.drewN n := by
  cases c
  · exact (pwaits_r b lb size d r x w h).mono fun e w' ⟨h1, h2⟩ => ⟨h1, 0, h2⟩
  · exact (pwaits_w b lb size d r x w h).mono fun e w' ⟨h1, h2⟩ => ⟨h1, 1, h2⟩
theorem rwaits_any (q size : Nat) (d : List UInt8) (r x : Nat) (w : World) (h : RefP w q size d r x) (c : Bool) :
    Calls Try.prog 27 #[.pointer (some ⟨q, 0, none⟩), .bool c] w fun e w' => e = .returned (.bool (pwB c size d r x)) ∧ ∃ n, w' = w.drewN n := by
  cases c
  · exact (rwaits_r q size d r x w h).mono fun e w' ⟨h1, h2⟩ => ⟨h1, 0, h2⟩
  · exact (rwaits_w q size d r x w h).mono fun e w' ⟨h1, h2⟩ => ⟨h1, 1, h2⟩
def LawPost (W : World) (e : Ending) (w' : World) : Prop := e = .returned (.bool true) ∧ Below W.heap.size W w'

set_option maxRecDepth 100000 in
set_option maxHeartbeats 1000000 in
theorem pruns_walk (size : Int) (a : Option Addr) (len cap : Nat) (W : World) (hc : CallRow W a len) :
    Calls Try.prog 5 #[.int .i64 size, .slice a len cap] W (LawPost W) := by
  go_enter Try.func5, Try.ntmps5
  go_wp2_with fail
  refine (pawake_any _).mono ?_
  rintro e w1 ⟨rfl, hf1⟩
  go_wp2_with fail
  refine (pnew_any _ _).mono ?_
  rintro e w2 ⟨hf2, (⟨hs, rfl⟩ | ⟨hs, b, lb, hb, hlb, rfl, hp1⟩)⟩
  · go_wp2_with fail
    refine (rnew_any _ _).mono ?_
    rintro e w3 ⟨hf3, (⟨_, rfl⟩ | ⟨hs', _⟩)⟩
    · go_wp2_with fail
      refine (nil_write _ _).mono ?_
      rintro e w4 ⟨rfl, rfl⟩
      go_wp2_with fail
      refine (nil_read _ _).mono ?_
      rintro e w4 ⟨rfl, rfl⟩
      go_wp2_with fail
      refine (nil_ends _).mono ?_
      rintro e w4 ⟨rfl, rfl⟩
      go_wp2_with fail
      refine (nil_open _ _).mono ?_
      rintro e w4 ⟨rfl, rfl⟩
      go_wp2_with fail
      refine (nil_close _ _).mono ?_
      rintro e w4 ⟨rfl, rfl⟩
      go_wp2_with fail
      refine (nil_len _).mono ?_
      rintro e w4 ⟨rfl, rfl⟩
      go_wp2_with fail
      refine (nil_waits _ _).mono ?_
      rintro e w4 ⟨rfl, rfl⟩
      go_wp2_with fail
      go_ret
      exact ⟨rfl, ((hf1.trans hf2).trans hf3).below (fun _ _ h => h)⟩
    · omega
  go_wp2_with fail
  refine (rnew_any _ _).mono ?_
  rintro e w3 ⟨hf3, (⟨hs', rfl⟩ | ⟨_, q, hq, rfl, hr1⟩)⟩
  · omega
  go_wp2_with fail
  have hlen := hc.1
  have hz1 := hf1.size
  have hz2 := hf2.size
  have hz3 := hf3.size
  have hbl : b ≠ lb := hp1.choose_spec.choose_spec.hne
  have hqb := blk_lt hp1.choose_spec.choose_spec.hb
  have hql := blk_lt hp1.choose_spec.choose_spec.hl
  have hW3 : Fr (fun _ => False) W w3 := (hf1.trans hf2).trans hf3
  have hboth : Both W w3 b lb q size.toNat 0 := ⟨[], 0, 0, hp1.frame hf3 (fun h => h) (fun h => h), hr1, Nat.le_refl _, Nat.le_refl _, hW3⟩
  clear hp1 hr1 hf1 hf2 hf3
  go_loopg [107] len (fun gk i wr => RunsRel W b lb q size.toNat len gk i wr)
  case atStart => exact ⟨0, by omega, by omega, rfl, hboth⟩
  case round =>
    clear hboth hW3
    obtain ⟨k, hgk, hk200, rfl, d, r, x, hp, hr, hrk, hxk, hfr⟩ := hrel
    have Hgk := hide hgk
    clear hgk
    by_cases hlt : k < len
    · obtain ⟨cb, co, rfl, hrow⟩ := hc.2.resolve_left (by omega)
      obtain ⟨what, n, cw, txt, c0, c1, c2, c3, hn, htx⟩ := hrow k hlt
      have d0 : wr.cell? ⟨cb, co + k * 4, none⟩ = some (.int .i64 what) := by rw [World.cell?_of_block (w := W) (hfr.block _ (World.block_lt_of_cell? _ _ c0) (fun h => h))]; exact c0
      have d1 : wr.cell? ⟨cb, co + k * 4 + 1, none⟩ = some (.int .i64 n) := by rw [World.cell?_of_block (w := W) (hfr.block _ (World.block_lt_of_cell? _ _ c1) (fun h => h))]; exact c1
      have d2 : wr.cell? ⟨cb, co + k * 4 + 2, none⟩ = some (.bool cw) := by rw [World.cell?_of_block (w := W) (hfr.block _ (World.block_lt_of_cell? _ _ c2) (fun h => h))]; exact c2
      have d3 : wr.cell? ⟨cb, co + k * 4 + 3, none⟩ = some (.string txt) := by rw [World.cell?_of_block (w := W) (hfr.block _ (World.block_lt_of_cell? _ _ c3) (fun h => h))]; exact c3
      clear hrow c0 c1 c2 c3
      by_cases h200 : k = 200
      · subst h200
        go_wp2_with fail
        go_ret
        exact ⟨rfl, (hfr.trans ((Fr.refl _ _).alloc _)).below (fun _ _ h => h)⟩
      · have hpl := hp.lt
        have hrl := hr.lt
        have hWs := hfr.size
        obtain ⟨wa, hwa⟩ : ∃ wa, wa = wr.alloc (.cells #[.int .i64 what, .int .i64 n, .bool cw, .string txt] 51) := ⟨_, rfl⟩
        have hfa : Fr (fun _ => False) wr wa := by rw [hwa]; exact (Fr.refl _ _).alloc _
        have hca : wa.heap[wr.heap.size]? = some (.cells #[.int .i64 what, .int .i64 n, .bool cw, .string txt] 51 (0, 0)) := by rw [hwa]; exact blk_new _ _
        have hpa := hp.frame hfa (fun h => h) (fun h => h)
        have hra := hr.frame hfa (fun h => h)
        have e1 : wa.cell? ⟨wr.heap.size, 1, none⟩ = some (.int .i64 n) := by rw [blk_cell hca]; rfl
        have e2 : wa.cell? ⟨wr.heap.size, 2, none⟩ = some (.bool cw) := by rw [blk_cell hca]; rfl
        have e3 : wa.cell? ⟨wr.heap.size, 3, none⟩ = some (.string txt) := by rw [blk_cell hca]; rfl
        have Hwa := hide hwa
        clear hwa
        go_upto_block 2 with fail
        go_cut [] (fun wc => Both W wc b lb q size.toNat (k + 1))
        case first =>
          rw [← Hwa.out]
          clear d0 d1 d2 d3 Hwa
          have hfrA : Fr (fun _ => False) W wa := hfr.trans hfa
          have hsa := hfa.size
          have Hca := hide hca
          clear hca
          go_wp2_with fail
          · -- Open
            refine (popen_any _ _ _ _ _ _ _ hpa (by omega) (by omega) _).mono ?_
            rintro e w4 ⟨rfl, hp4, hf4⟩
            have hr4 := hra.frame hf4 (by omega)
            have e4 : w4.cell? ⟨wr.heap.size, 2, none⟩ = some (.bool cw) := by rw [blk_cell (hf4.get Hca.out (by omega))]; rfl
            go_wp2_with fail
            refine (ropen_any _ _ _ _ _ _ hr4 (by omega) (by omega) _).mono ?_
            rintro e w5 ⟨rfl, hr5, hf5⟩
            go_wp2_with fail
            go_meet
            case rel =>
              refine ⟨_, _, _, hp4.frame hf5 (by omega) (by omega), hr5, by split <;> omega, by split <;> omega, ?_⟩
              exact (hfrA.trans' hf4 (fun i hi e => by omega)).trans' hf5 (fun i hi e => by omega)
          · -- Close
            refine region_calls (fun w' => w'.heap[wr.heap.size]? = some (.cells #[.int .i64 what, .int .i64 n, .bool cw, .string txt] 51 (0, 0))) [0, 1, 2, 4, 5, 6] [3, 7] 8 (by kernel_rfl) (by kernel_rfl) (fun _ _ d _ _ h => by cases d <;> exact h) Hca.out ?_
            simp only [List.map_cons, List.map_nil, List.getD_cons_zero, List.getD_cons_succ, List.drop_succ_cons, List.drop_zero]
            go_big_quiet_step (fail)
            refine wpQuiet_val (.pointer (some ⟨wr.heap.size, 2, none⟩)) rfl (fun w' _ => by go_simp) ?_
            simp only [Act.put, List.setIfInBounds_toArray, List.set_cons_succ, List.set_cons_zero]
            refine wpQuiet_val (.bool cw) rfl (fun w' hS => by have e2 : w'.cell? ⟨wr.heap.size, 2, none⟩ = some (.bool cw) := by rw [blk_cell hS]; rfl
                                                               go_simp) ?_
            simp only [Act.put, List.setIfInBounds_toArray, List.set_cons_succ, List.set_cons_zero]
            go_big_quiet_step (fail)
            refine wpQuiet_val (.pointer (some ⟨wr.heap.size, 2, none⟩)) rfl (fun w' _ => by go_simp) ?_
            simp only [Act.put, List.setIfInBounds_toArray, List.set_cons_succ, List.set_cons_zero]
            refine wpQuiet_val (.bool cw) rfl (fun w' hS => by have e2 : w'.cell? ⟨wr.heap.size, 2, none⟩ = some (.bool cw) := by rw [blk_cell hS]; rfl
                                                               go_simp) ?_
            simp only [Act.put, List.setIfInBounds_toArray, List.set_cons_succ, List.set_cons_zero]
            refine wpQuiet_nil ?_
            have hpd := hpa.frame ((Fr.refl (fun _ => False) wa).drew) (fun h => h) (fun h => h)
            have hrd := hra.frame ((Fr.refl (fun _ => False) wa).drew) (fun h => h)
            refine chainS_step rfl (fun K hK => ?_)
            go_wp2_with fail
            refine (pclose_any _ _ _ _ _ _ _ hpd (by omega) (by omega) _).mono ?_
            rintro e w4 ⟨rfl, hp4, hf4⟩
            have hr4 := hrd.frame hf4 (by omega)
            have hfr4 : Fr (fun _ => False) W w4 := hfrA.drew.trans' hf4 (fun i hi e => by omega)
            refine hK _ _ (hf4.get Hca.out (by omega)) ?_
            clear hK K
            refine chainS_step rfl (fun K hK => ?_)
            go_wp2_with fail
            refine (rclose_any _ _ _ _ _ _ hr4 (by omega) (by omega) _).mono ?_
            rintro e w5 ⟨rfl, hr5, hf5⟩
            refine hK _ _ (hf5.get (hf4.get Hca.out (by omega)) (by omega)) ?_
            clear hK K
            refine chainS_nil ?_
            go_wp2_with fail
            go_meet
            case rel =>
              refine ⟨_, _, _, hp4.frame hf5 (by omega) (by omega), hr5, by split <;> omega, by split <;> omega, ?_⟩
              exact hfr4.trans' hf5 (fun i hi e => by omega)
          · -- Write
            have hd3 := hpl.2.2.1
            have hz3 := hpl.2.2.2
            refine (pwrite_any _ _ _ _ _ _ _ hpa _ htx).mono ?_
            rintro e w4 ⟨rfl, hp4, hf4⟩
            have hr4 := hra.frame hf4 (by omega)
            have hfr4 : Fr (fun _ => False) W w4 := hfrA.trans' hf4 (fun i hi e => by omega)
            have e4 : w4.cell? ⟨wr.heap.size, 3, none⟩ = some (.string txt) := by rw [blk_cell (hf4.get Hca.out (by omega))]; rfl
            go_wp2_with fail
            refine (rwrite_any _ _ _ _ _ _ hr4 _ htx hd3 hz3).mono ?_
            rintro e w5 ⟨rfl, hr5, hf5⟩
            go_wp2_with fail
            go_meet
            case rel =>
              exact ⟨_, _, _, hp4.frame hf5 (by omega) (by omega), hr5, by omega, by omega, hfr4.trans' hf5 (fun i hi e => by omega)⟩
          · -- Read
            have hd3 := hpl.2.2.1
            have hz3 := hpl.2.2.2
            refine (pread_any _ _ _ _ _ _ _ hpa _ hn).mono ?_
            rintro e w4 ⟨rfl, hp4, hf4⟩
            have hr4 := hra.frame hf4 (by omega)
            have hfr4 : Fr (fun _ => False) W w4 := hfrA.trans' hf4 (fun i hi e => by omega)
            have e4 : w4.cell? ⟨wr.heap.size, 1, none⟩ = some (.int .i64 n) := by rw [blk_cell (hf4.get Hca.out (by omega))]; rfl
            go_wp2_with fail
            refine (rread_any _ _ _ _ _ _ hr4 _ hn (by omega)).mono ?_
            rintro e w5 ⟨s5, hs5, rfl, hr5, hf5⟩
            obtain rfl : s5 = ⟨(rdS d x n).toArray⟩ := by obtain ⟨⟨l⟩⟩ := s5; simp at hs5; rw [hs5]
            go_wp2_with fail
            go_meet
            case rel =>
              exact ⟨_, _, _, hp4.frame hf5 (by omega) (by omega), hr5, by omega, by omega, hfr4.trans' hf5 (fun i hi e => by omega)⟩
          · -- nothing
            go_meet
            case rel => exact ⟨_, _, _, hpa, hra, by omega, by omega, hfrA⟩
        case rest =>
          clear hp hr hpa hra d0 d1 d2 d3 e1 e2 e3 hca hpl hrl Hwa hrk hxk
          obtain ⟨d, r, x, hp, ⟨t, ht, hrb⟩, hrk, hxk, hfr⟩ := hcut
          have hr : RefP wc q size.toNat d r x := ⟨t, ht, hrb⟩
          have q1 : wc.cell? ⟨q, 1, none⟩ = some (.int .i64 r) := by rw [blk_cell hrb]; rfl
          have q2 : wc.cell? ⟨q, 2, none⟩ = some (.int .i64 x) := by rw [blk_cell hrb]; rfl
          have q3 : wc.cell? ⟨q, 3, none⟩ = some (.string t) := by rw [blk_cell hrb]; rfl
          have hlt' : d.length = t.size := by rw [← ht, ba_len]
          have kLen : ∀ n : Nat, Calls Try.prog 17 #[.pointer (some ⟨b, 0, none⟩)] (wc.drewN (1 + n)) fun e w' => e = .returned (.int .i64 t.size) ∧ ∃ m, w' = wc.drewN (1 + m) := by
            intro n
            have := plen_any b lb size.toNat d r x _ (hp.frame ((Fr.refl (fun _ => False) wc).drewN (1 + n)) (fun h => h) (fun h => h))
            rw [hlt'] at this
            exact this.mono fun e w' ⟨h1, h2⟩ => ⟨h1, n, h2⟩
          have kP : ∀ (n : Nat) (c : Bool), Calls Try.prog 22 #[.pointer (some ⟨b, 0, none⟩), .bool c] (wc.drewN (1 + n)) fun e w' => e = .returned (.bool (pwB c size.toNat d r x)) ∧ ∃ m, w' = wc.drewN (1 + m) :=
            fun n c => (pwaits_any b lb size.toNat d r x _ (hp.frame ((Fr.refl (fun _ => False) wc).drewN (1 + n)) (fun h => h) (fun h => h)) c).mono fun e w' ⟨h1, m, h2⟩ => ⟨h1, n + m, by rw [h2, World.drewN_drewN, Nat.add_assoc]⟩
          have kR : ∀ (n : Nat) (c : Bool), Calls Try.prog 27 #[.pointer (some ⟨q, 0, none⟩), .bool c] (wc.drewN (1 + n)) fun e w' => e = .returned (.bool (pwB c size.toNat d r x)) ∧ ∃ m, w' = wc.drewN (1 + m) :=
            fun n c => (rwaits_any q size.toNat d r x _ (hr.frame ((Fr.refl (fun _ => False) wc).drewN (1 + n)) (fun h => h)) c).mono fun e w' ⟨h1, m, h2⟩ => ⟨h1, n + m, by rw [h2, World.drewN_drewN, Nat.add_assoc]⟩
          have KLen := hide kLen
          have KP := hide kP
          have KR := hide kR
          have kRel : ∀ W', Fr (fun _ => False) wc W' → Both W W' b lb q size.toNat (k + 1) := fun W' hW' => ⟨d, r, x, hp.frame hW' (fun h => h) (fun h => h), hr.frame hW' (fun h => h), hrk, hxk, hfr.trans hW'⟩
          have KRel := hide kRel
          clear kLen kP kR kRel hrb ht hr hlt'
          go_wp2_with fail
          refine (pends_any _ _ _ _ _ _ _ hp).mono ?_
          rintro e w4 ⟨rfl, rfl⟩
          clear hp
          go_upto_region 35 with fail
          go_quiet (first | (go_at_call 17; exact KLen.out _) | (go_at_call 22; exact KP.out _ _) | (go_at_call 27; exact KR.out _ _))
          go_wp2_with fail
          go_roundg (gk - 1)
          case measure => have := Hgk.out; omega
          case rel =>
            exact ⟨k + 1, by have := Hgk.out; omega, by omega, by go_num, KRel.out _ ((Fr.refl _ _).drewN _)⟩
    · go_wp2_with fail
      go_ret
      exact ⟨rfl, hfr.below (fun _ _ h => h)⟩
end Go.Proofs.Ytcoaggghabdndaa
