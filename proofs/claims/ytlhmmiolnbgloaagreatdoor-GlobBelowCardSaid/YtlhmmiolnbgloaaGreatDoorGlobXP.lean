/- shyardref08: FS.Create, Mkdir, Hold, Drop, file. Conditions: each contract's own premises. -/
import Derived.Test.YtlhmmiolnbgloaaGreatDoorFrefO
import Derived.Test.YtlhmmiolnbgloaaGreatDoorFrefB
import Derived.Test.YtlhmmiolnbgloaaGreatDoorFilesInvB
import Derived.Test.YtlhmmiolnbgloaaGreatDoorFilesS
import Derived.Test.YtlhmmiolnbgloaaGreatDoorFrefNN
import Derived.Test.YtlhmmiolnbgloaaGreatDoorGlobI
namespace Go.Proofs.YtlhmmiolnbgloaaGreatDoor
open Go.RowKit

set_option maxRecDepth 100000 in
theorem rcreate_any (w : World) (g : Nat) (σ : FSt) (S : Nat → Prop) (h : RfAt w g σ S) (hG : RG σ) (dir : Int) (hi : -9223372036854775808 ≤ dir ∧ dir ≤ 9223372036854775807) (s : ByteArray) (hs : s.size ≤ 9223372036854775807) (m : Int) (hm : -9223372036854775808 ≤ m ∧ m ≤ 9223372036854775807) :
    Calls Tryz.prog 20 #[.pointer (some ⟨g, 0, none⟩), .int .i64 dir, .string s, .int .i64 m] w (RmutPost g (createR σ dir s.data.toList m).2.2 S (.tuple #[.int .i64 (createR σ dir s.data.toList m).1, .int .i64 (createR σ dir s.data.toList m).2.1]) w) := by
  have hmk := rmake_any w g σ S h hG dir hi s hs false m hm
  have hE : (createR σ dir s.data.toList m).2.1 = addE σ dir s.data.toList false := by
    unfold createR makeR
    split
    · rfl
    · rename_i h; exact (Decidable.not_not.1 h).symm
  have hv : (createR σ dir s.data.toList m).1 = (if addE σ dir s.data.toList false = 0 then (σ.free : Int) else 0) := by
    unfold createR
    by_cases e : addE σ dir s.data.toList false = 0
    · rw [if_neg (fun h => h e), if_pos e]
    · rw [if_pos e, if_neg e]
  have hS : (createR σ dir s.data.toList m).2.2 = (makeR σ dir s.data.toList false m).2 := rfl
  unfold RmkPost at hmk
  rw [← hv, ← hE, ← hS] at hmk
  generalize createR σ dir s.data.toList m = q at *
  obtain ⟨q1, q2, q3⟩ := q
  simp only [Bool.false_eq_true, if_false] at hmk ⊢
  have Hmk := hide hmk
  clear hmk hE hv hS
  go_enter Tryz.func20, Tryz.ntmps20
  go_wp2_with fail
  refine Hmk.out.mono ?_
  rintro e w1 ⟨rfl, h1, h2⟩
  go_wp2_with fail
  go_returns
  exact ⟨rfl, h1, h2⟩
set_option maxRecDepth 100000 in
theorem rmkdir_any (w : World) (g : Nat) (σ : FSt) (S : Nat → Prop) (h : RfAt w g σ S) (hG : RG σ) (dir : Int) (hi : -9223372036854775808 ≤ dir ∧ dir ≤ 9223372036854775807) (s : ByteArray) (hs : s.size ≤ 9223372036854775807) (m : Int) (hm : -9223372036854775808 ≤ m ∧ m ≤ 9223372036854775807) :
    Calls Tryz.prog 19 #[.pointer (some ⟨g, 0, none⟩), .int .i64 dir, .string s, .int .i64 m] w (RmutPost g (makeR σ dir s.data.toList true m).2 S (.int .i64 (makeR σ dir s.data.toList true m).1) w) := by
  have hmk := rmake_any w g σ S h hG dir hi s hs true m hm
  have hE : (makeR σ dir s.data.toList true m).1 = addE σ dir s.data.toList true := by
    unfold makeR
    split
    · rfl
    · rename_i h; exact (Decidable.not_not.1 h).symm
  unfold RmkPost at hmk
  rw [← hE] at hmk
  generalize makeR σ dir s.data.toList true m = q at *
  obtain ⟨q1, q2⟩ := q
  simp only [if_true] at hmk ⊢
  generalize (if q1 = 0 then (σ.free : Int) else 0) = v at hmk
  have Hmk := hide hmk
  clear hmk hE
  go_enter Tryz.func19, Tryz.ntmps19
  go_wp2_with fail
  refine Hmk.out.mono ?_
  rintro e w1 ⟨rfl, h1, h2⟩
  go_wp2_with fail
  go_returns
  exact ⟨rfl, h1, h2⟩
end Go.Proofs.YtlhmmiolnbgloaaGreatDoor

/- shyardlaw09.laid: two trees of the same. Conditions: the contract's own premises. -/
namespace Go.Proofs.YtlhmmiolnbgloaaGreatDoor
open Go.RowKit

attribute [local go_sem] Oper.semAt_some

theorem RfAt.apartsG {w w' : World} {g : Nat} {σ : FSt} {S T : Nat → Prop} (h : RfAt w g σ S) (hf : Fr T w w') (hd : ∀ k, k < w.heap.size → S k → ¬ T k) : RfAt w' g σ (fun k => S k ∧ ¬ (w.heap.size ≤ k ∧ k < w'.heap.size)) := by
  obtain ⟨rv, nv, iv, hF⟩ := h
  have hm : ∀ k, k < w.heap.size → ¬ (w.heap.size ≤ k ∧ k < w'.heap.size) := fun k hk e => by have := e.1; omega
  exact ⟨rv, nv, iv, ⟨hf.get hF.hb (hd _ (blk_lt hF.hb) hF.own), own_frame hF.hr hf (fun q e => hd _ (hF.hr.lt q e).2 (hF.ownr q e).1), fun i n hn => ((hF.nm i n hn).mono (fun k hk h2 => ⟨⟨h2.1, hm k hk⟩, h2.2⟩)).frame hf (fun k hk h2 => hd k hk h2.1.1),
    fun i n hn => ((hF.im i n hn).mono (fun k hk h2 => ⟨⟨h2.1, hm k hk⟩, h2.2⟩)).frame hf (fun k hk h2 => hd k hk h2.1.1), ⟨hF.own, hm _ (blk_lt hF.hb)⟩, fun q e => ⟨⟨(hF.ownr q e).1, hm q (hF.hr.lt q e).2⟩, (hF.ownr q e).2⟩, fun k hk => ⟨hF.up k (Nat.le_trans hf.size hk), fun e => by have := e.2; omega⟩⟩⟩
theorem FilesF.apartsG {w w' : World} {f : Nat} {σ : FSt} {S T : Nat → Prop} {p : Nat → Nat} {dv ev pv : Nat → Value} {lv : Value} (h : FilesF w f σ S p dv ev pv lv) (hf : Fr T w w') (hd : ∀ k, k < w.heap.size → S k → ¬ T k) : FilesF w' f σ (fun k => S k ∧ ¬ (w.heap.size ≤ k ∧ k < w'.heap.size)) p dv ev pv lv := by
  have h' := h.frame hf hd
  have nl : ∀ i, (σ.nd i).isSome = true → ∃ n, NodeF w p (p i) i n (dv i) (ev i) (pv i) := fun i hi => by
    obtain ⟨n, hn⟩ := Option.isSome_iff_exists.1 hi
    exact ⟨n, h.nd i n hn⟩
  exact ⟨h'.hb, h'.hl, h'.nd, h.inj, h.injd, h.inje, ⟨h.own, by have := blk_lt h.hb; omega⟩, fun g e => ⟨h.ownl g e, by have := (h.hl.lt g e).2; omega⟩,
    fun i hi => ⟨h.ownn i hi, by obtain ⟨n, hn⟩ := nl i hi; have := blk_lt hn.hb; omega⟩, fun i g hi e => ⟨h.ownd i g hi e, by obtain ⟨n, hn⟩ := nl i hi; have := hn.data.lt e; omega⟩,
    fun i m hi e => ⟨h.owne i m hi e, by obtain ⟨n, hn⟩ := nl i hi; have := hn.map_lt e; omega⟩, fun k hk => ⟨h.up k (Nat.le_trans hf.size hk), by omega⟩, h.live⟩
theorem FilesAt.apartsG {w w' : World} {f : Nat} {σ : FSt} {S T : Nat → Prop} {p : Nat → Nat} (h : FilesAt w f σ S p) (hf : Fr T w w') (hd : ∀ k, k < w.heap.size → S k → ¬ T k) : FilesAt w' f σ (fun k => S k ∧ ¬ (w.heap.size ≤ k ∧ k < w'.heap.size)) p := by
  obtain ⟨_, _, _, _, h⟩ := h
  exact ⟨_, _, _, _, h.apartsG hf hd⟩
theorem FilesAt.allG {w : World} {f : Nat} {σ : FSt} {S : Nat → Prop} {p : Nat → Nat} (h : FilesAt w f σ S p) : AllM σ := fun i n hn => by
  obtain ⟨_, _, _, hN⟩ := h.node hn
  exact hN.md
structure LayQ where
  path : ByteArray
  dir : Bool
  mode : Int
def LayOk (x : LayQ) : Prop := x.path.size ≤ 9223372036854775807 ∧ (-9223372036854775808 ≤ x.mode ∧ x.mode ≤ 9223372036854775807)
def LayRow (W : World) (a : Option Addr) (l : List LayQ) : Prop := l.length ≤ 9223372036854775807 ∧ (∀ c ∈ l, LayOk c) ∧ (l = [] ∨ ∃ g o, a = some ⟨g, o, none⟩ ∧ g < W.heap.size ∧ ∀ k (hk : k < l.length),
  W.cell? ⟨g, o + (k * 3 + 0), none⟩ = some (.string l[k].path) ∧ W.cell? ⟨g, o + (k * 3 + 1), none⟩ = some (.bool l[k].dir) ∧ W.cell? ⟨g, o + (k * 3 + 2), none⟩ = some (.int .i64 l[k].mode))
def LayRowN (W : World) (a : Option Addr) (n : Nat) : Prop := ∃ l : List LayQ, l.length = n ∧ LayRow W a l
/-- Both trees, apart. -/
structure BothL (W : World) (f g : Nat) (k : Nat) (wr : World) (σ : FSt) (p : Nat → Nat) (S1 S2 : Nat → Prop) : Prop where
  fa : FilesAt wr f σ S1 p
  rf : RfAt wr g σ S2
  ld : LaidS σ k
  ap : ∀ q, q < wr.heap.size → S1 q → ¬ S2 q
  lo1 : ∀ q, S1 q → W.heap.size ≤ q
  lo2 : ∀ q, S2 q → W.heap.size ≤ q
  fr : Fr (fun q => W.heap.size ≤ q) W wr
theorem Fr.noG {a b : World} {S : Nat → Prop} (h : Fr (fun _ => False) a b) : Fr S a b := h.mono fun _ _ e => e.elim
theorem BothL.still {W : World} {f g k : Nat} {wr w' : World} {σ : FSt} {p : Nat → Nat} {S1 S2 : Nat → Prop} (h : BothL W f g k wr σ p S1 S2) (hf : Fr (fun _ => False) wr w') : BothL W f g k w' σ p (fun q => S1 q ∧ ¬ (wr.heap.size ≤ q ∧ q < w'.heap.size)) (fun q => S2 q ∧ ¬ (wr.heap.size ≤ q ∧ q < w'.heap.size)) where
  fa := h.fa.apartsG hf (fun _ _ _ e => e)
  rf := h.rf.apartsG hf (fun _ _ _ e => e)
  ld := h.ld
  ap q hq h1 h2 := h.ap q (by have := h1.2; omega) h1.1 h2.1
  lo1 q h1 := h.lo1 q h1.1
  lo2 q h1 := h.lo2 q h1.1
  fr := h.fr.trans hf.noG
theorem BothL.rg {W : World} {f g k : Nat} {wr : World} {σ : FSt} {p : Nat → Nat} {S1 S2 : Nat → Prop} (h : BothL W f g k wr σ p S1 S2) (hk : k ≤ 1000000) : RG σ := ⟨h.ld.good.live, h.fa.allG, h.ld.good.b hk⟩
/-- Behind a call of the program's and the same of the document's. -/
theorem BothL.made {W : World} {f g k : Nat} {wa w4 w5 : World} {σ : FSt} {p : Nat → Nat} {S1 S2 : Nat → Prop} {s : List UInt8} {d : Bool} {m : Int} {v1 v2 : Value} {e1 e2 : Ending} (h : BothL W f g k wa σ p S1 S2) (h1 : MutX f (makeR σ 1 s d m).2 S1 v1 wa e1 w4)
    (h2 : RmutPost g (makeR σ 1 s d m).2 (fun q => S2 q ∧ ¬ (wa.heap.size ≤ q ∧ q < w4.heap.size)) v2 w4 e2 w5) :
    ∃ p', BothL W f g (k + 1) w5 (makeR σ 1 s d m).2 p' (fun q => S1 q ∧ ¬ (w4.heap.size ≤ q ∧ q < w5.heap.size)) (fun q => S2 q ∧ ¬ (wa.heap.size ≤ q ∧ q < w4.heap.size)) := by
  obtain ⟨-, ⟨p', a2⟩, a3⟩ := h1
  obtain ⟨-, b2, b3⟩ := h2
  refine ⟨p', ⟨a2.apartsG b3 fun q hq x1 x2 => ?_, b2, h.ld.make _ _ _ _ a2.live, fun q hq x1 x2 => ?_, fun q x => h.lo1 q x.1, fun q x => h.lo2 q x.1, (h.fr.trans (a3.mono fun q _ x => h.lo1 q x)).trans (b3.mono fun q _ x => h.lo2 q x.1)⟩⟩
  · exact h.ap q (by have := x2.2; omega) x1 x2.1
  · have e1 := x1.2
    have e2 := x2.2
    exact h.ap q (by omega) x1.1 x2.1
def LdI (W : World) (f g k : Nat) (wr : World) : Prop := ∃ σ p S1 S2, BothL W f g (1 + k) wr σ p S1 S2
def LdRel (W : World) (f g n : Nat) (gk : Nat) (i : Value) (wr : World) : Prop := ∃ k, gk + k = n ∧ k ≤ 40 ∧ i = .int .i64 k ∧ LdI W f g k wr
def LaidPost (w : World) (e : Ending) (w' : World) : Prop := ∃ f g σ S p, e = .returned (.tuple #[.pointer (some ⟨f, 0, none⟩), .pointer (some ⟨g, 0, none⟩)]) ∧ FilesAt w' f σ S p ∧ LaidS σ 41 ∧ (∀ k, S k → w.heap.size ≤ k) ∧ Fr (fun _ => False) w w'
set_option maxRecDepth 100000 in
set_option maxHeartbeats 1000000 in
theorem laid_any (W : World) (a : Option Addr) (len cap : Nat) (hml : Ml W) (hc : LayRowN W a len) : Calls Tryz.prog 6 #[.slice a len cap] W (LaidPost W) := by
  obtain ⟨l, rfl, hlen, hcok, hrow⟩ := hc
  have hmlt : ¬ W.heap.size ≤ Tryz.laysSplit_ren.g 1 := by
    obtain ⟨m, hm⟩ := hml
    have : Tryz.laysSplit_ren.g 1 < W.heap.size := World.block_lt_of_cell? _ _ hm
    omega
  have Hml := hide hml
  have Hlt := hide hmlt
  have Hcok := hide hcok
  have Hrow := hide hrow
  have Hlen := hide hlen
  clear hml hmlt hcok hrow hlen
  go_enter Tryz.func6, Tryz.ntmps6
  go_wp2_with fail
  refine (New_any W).mono ?_
  rintro e w1 ⟨f, p1, rfl, hA1, hf1⟩
  have HA1 := hide hA1
  have Hf1 := hide hf1
  clear hA1 hf1
  go_wp2_with fail
  refine (rnew_any w1).mono ?_
  rintro e w2 ⟨g, rfl, hR2, hf2⟩
  have H0 := hide (show LdI W f g 0 w2 from ⟨_, _, _, _, ⟨HA1.out.apartsG hf2 (fun _ _ _ e => e), hR2, LaidS.new, fun q hq x1 x2 => x1.2 ⟨x2, hq⟩, fun q x => x.1, fun q x => Nat.le_trans Hf1.out.size x,
    Hf1.out.noG.trans hf2.noG⟩⟩)
  clear hR2 hf2 HA1
  go_upto_block 0 with fail
  go_cut [] from 12 to 45 (fun wx => ∃ k, k ≤ 40 ∧ LdI W f g k wx)
  case first =>
    go_wp2_with fail
    go_loopg [12] l.length (fun gk i wr => LdRel W f g l.length gk i wr)
    case atStart => exact ⟨0, by omega, by omega, rfl, H0.out⟩
    case round =>
      clear H0
      obtain ⟨k, hgk, hk40, rfl, σ, p, S1, S2, hB⟩ := hrel
      have Hgk := hide hgk
      clear hgk
      by_cases hlt : k < l.length
      · obtain ⟨gb, o, rfl, hgb, hcells⟩ := Hrow.out.resolve_left (fun e => by rw [e] at hlt; exact absurd hlt (Nat.not_lt_zero _))
        have hck := hcells k hlt
        have hok := Hcok.out l[k] (List.getElem_mem hlt)
        generalize l[k] = c at hck hok
        obtain ⟨path, dir, mode⟩ := c
        obtain ⟨c0, c1', c2⟩ := hck
        simp only [Nat.add_zero] at c0
        have hfr := hB.fr
        have tr : ∀ p v, W.cell? p = some v → wr.cell? p = some v := fun p v h => by
          have hb := World.block_lt_of_cell? _ _ h
          rw [World.cell?_of_block (w := W) (hfr.block _ hb (by omega))]; exact h
        have d0 := tr _ _ c0
        have d1 := tr _ _ c1'
        have d2 := tr _ _ c2
        simp only [← Nat.add_assoc] at d1 d2
        clear c0 c1' c2 tr hcells
        have hli : (k : Int) < (l.length : Int) := by omega
        have hli0 : (0 : Int) ≤ (k : Int) := by omega
        by_cases h40 : k = 40
        · subst h40
          have hfin := hide (show ∃ k, k ≤ 40 ∧ LdI W f g k (wr.alloc (.cells #[.string path, .bool dir, .int .i64 mode] 52 (0, 0))) from
            ⟨40, Nat.le_refl _, σ, p, _, _, hB.still ((Fr.refl (fun _ => False) wr).alloc _)⟩)
          clear hB hfr hok
          go_wp2_with fail
          go_meet
          case rel => exact hfin.out
        · obtain ⟨wa, hwa⟩ : ∃ wa, wa = wr.alloc (.cells #[.string path, .bool dir, .int .i64 mode] 52 (0, 0)) := ⟨_, rfl⟩
          obtain ⟨ca, hcae⟩ : ∃ ca, ca = wr.heap.size := ⟨_, rfl⟩
          have hca : wa.heap[ca]? = some (.cells #[.string path, .bool dir, .int .i64 mode] 52 (0, 0)) := by rw [hwa, hcae]; exact blk_new _ _
          have hfa : Fr (fun _ => False) wr wa := by rw [hwa]; exact (Fr.refl _ _).alloc _
          have hBd := hB.still hfa
          have Hmd := hide (Hml.out.frame (hfr.trans hfa.noG) Hlt.out)
          have hkne : ¬ (k : Int) = 40 := by omega
          have hkneb : ((k : Int) == 40) = false := by rw [beq_eq_false_iff_ne]; exact hkne
          cases dir with
          | true =>
            have hmk := hide (Mkdir_any wa f σ _ p hBd.fa Hmd.out (hBd.ld.good.b (by omega)) 1 (by decide) path hok.1 mode hok.2)
            have HBd := hide hBd
            have Hca := hide hca
            have Hok := hide hok
            have c0 : wa.cell? ⟨ca, 0, none⟩ = some (.string path) := by rw [blk_cell hca]; rfl
            have c1 : wa.cell? ⟨ca, 1, none⟩ = some (.bool true) := by rw [blk_cell hca]; rfl
            have c2 : wa.cell? ⟨ca, 2, none⟩ = some (.int .i64 mode) := by rw [blk_cell hca]; rfl
            clear hB hfr hok hca hBd hfa
            go_upto_region 7 with (fail)
            rw [← hwa, ← hcae]
            have Hcae := hide hcae
            clear hwa d0 d1 d2 hcae
            go_wp2_with fail
            refine hmk.out.mono ?_
            rintro e w4 hM4
            have hM4' := hM4
            obtain ⟨rfl, -, hf4⟩ := hM4'
            have hca4 := hf4.get Hca.out (fun e => e.2 ⟨by have := Hcae.out; omega, by have := blk_lt Hca.out; omega⟩)
            have d0 : w4.cell? ⟨ca, 0, none⟩ = some (.string path) := by rw [blk_cell hca4]; rfl
            have d2 : w4.cell? ⟨ca, 2, none⟩ = some (.int .i64 mode) := by rw [blk_cell hca4]; rfl
            have hrm := hide (rmkdir_any w4 g σ _ (HBd.out.rf.apartsG hf4 (fun q hq x1 x2 => HBd.out.ap q hq x2 x1)) (HBd.out.rg (by omega)) 1 (by decide) path Hok.out.1 mode Hok.out.2)
            have HM4 := hide hM4
            clear hf4 hM4 hca4 c0 c1 c2 hmk
            go_wp2_with fail
            refine hrm.out.mono ?_
            rintro e w5 hM5
            have hM5' := hM5
            obtain ⟨rfl, -, -⟩ := hM5'
            obtain ⟨p', hB5⟩ := HBd.out.made (d := true) HM4.out hM5
            have hn := hide (show LdRel W f g l.length (gk - 1) (.int .i64 ((k : Int) + 1)) w5 from ⟨k + 1, by have := Hgk.out; omega, by omega, by go_num, _, p', _, _, by rw [show 1 + (k + 1) = 1 + k + 1 from by omega]; exact hB5⟩)
            have hm := hide (show gk - 1 < gk by have := Hgk.out; omega)
            clear hM5 hB5 HBd HM4 hrm d0 d2
            go_wp2_with fail
            go_roundg (gk - 1)
            case measure => exact hm.out
            case rel => exact hn.out
          | false =>
            have hmk := hide (Create_any wa f σ _ p hBd.fa Hmd.out (hBd.ld.good.b (by omega)) 1 (by decide) path hok.1 mode hok.2)
            have HBd := hide hBd
            have Hca := hide hca
            have Hok := hide hok
            have c0 : wa.cell? ⟨ca, 0, none⟩ = some (.string path) := by rw [blk_cell hca]; rfl
            have c1 : wa.cell? ⟨ca, 1, none⟩ = some (.bool false) := by rw [blk_cell hca]; rfl
            have c2 : wa.cell? ⟨ca, 2, none⟩ = some (.int .i64 mode) := by rw [blk_cell hca]; rfl
            clear hB hfr hok hca hBd hfa
            go_upto_region 9 with (fail)
            rw [← hwa, ← hcae]
            have Hcae := hide hcae
            clear hwa d0 d1 d2 hcae
            go_wp2_with fail
            refine hmk.out.mono ?_
            rintro e w4 hM4
            have hM4' := hM4
            obtain ⟨rfl, -, hf4⟩ := hM4'
            have hca4 := hf4.get Hca.out (fun e => e.2 ⟨by have := Hcae.out; omega, by have := blk_lt Hca.out; omega⟩)
            have d0 : w4.cell? ⟨ca, 0, none⟩ = some (.string path) := by rw [blk_cell hca4]; rfl
            have d2 : w4.cell? ⟨ca, 2, none⟩ = some (.int .i64 mode) := by rw [blk_cell hca4]; rfl
            have hrm := hide (rcreate_any w4 g σ _ (HBd.out.rf.apartsG hf4 (fun q hq x1 x2 => HBd.out.ap q hq x2 x1)) (HBd.out.rg (by omega)) 1 (by decide) path Hok.out.1 mode Hok.out.2)
            have HM4 := hide hM4
            clear hf4 hM4 hca4 c0 c1 c2 hmk
            go_wp2_with fail
            refine hrm.out.mono ?_
            rintro e w5 hM5
            have hM5' := hM5
            obtain ⟨rfl, -, -⟩ := hM5'
            obtain ⟨p', hB5⟩ := HBd.out.made (d := false) HM4.out hM5
            have hn := hide (show LdRel W f g l.length (gk - 1) (.int .i64 ((k : Int) + 1)) w5 from ⟨k + 1, by have := Hgk.out; omega, by omega, by go_num, _, p', _, _, by rw [show 1 + (k + 1) = 1 + k + 1 from by omega]; exact hB5⟩)
            have hm := hide (show gk - 1 < gk by have := Hgk.out; omega)
            clear hM5 hB5 HBd HM4 hrm d0 d2
            go_wp2_with fail
            go_roundg (gk - 1)
            case measure => exact hm.out
            case rel => exact hn.out
      · have hfin := hide (show ∃ k, k ≤ 40 ∧ LdI W f g k wr from ⟨k, hk40, σ, p, S1, S2, hB⟩)
        have hli : ¬ (k : Int) < (l.length : Int) := by omega
        clear hB
        go_wp2_with fail
        go_meet
        case rel => exact hfin.out
  case rest =>
    obtain ⟨k, hk, σ, p, S1, S2, hB⟩ := hcut
    have hfin := hide (show LaidPost W (.returned (.tuple #[.pointer (some ⟨f, 0, none⟩), .pointer (some ⟨g, 0, none⟩)])) wc from ⟨f, g, σ, S1, p, rfl, hB.fa, hB.ld.mono (by omega), hB.lo1, hB.fr.mono fun i hi e => by omega⟩)
    clear hB H0
    go_wp2_with fail
    first | go_ret2 | go_returns
    exact hfin.out
end Go.Proofs.YtlhmmiolnbgloaaGreatDoor

/- What the awake check of the glob laws finds, as plain data. No program in sight; no condition. -/
namespace Go.Proofs.YtlhmmiolnbgloaaGreatDoor
open Go.RowKit

def awA : FSt := (makeR newT 1 [100] true 493).2
def awT : FSt := (makeR awA 1 [100, 47, 102] false 420).2
def awP : List Ch := [un 42, un 47, un 102, un 42]
theorem aw_cut : cutP awP = 1 ∧ skipP awP = 2 := by decide
theorem aw_names1 : namesP awT 1 [] [un 42] = [[100]] := by
  have h := names_star (σ := awT) (dir := 1) (far := []) (t := [])
  rw [show plainL [] ++ [un starB] = [un 42] from rfl] at h
  rw [h]
  decide
theorem aw_match : matchL [un 102, un 42] [102] = true :=
  Mt.val (.go (u := ⟨[un 42], [], [], [], false⟩) (by rfl) (.go (u := ⟨[], [], [], [], true⟩) (by rfl) (.fin (by rfl))))
theorem aw_names2 : namesP awT 1 [100, 47] [un 102, un 42] = [[102]] := by
  unfold namesP
  rw [if_neg (by decide), if_neg (by decide)]
  have h : ((listL awT (thereL awT 1 [100, 47] : Nat)).map fun x => x.data.toList) = [[102]] := by decide
  rw [h, List.filter_cons, if_pos (by rw [aw_match]; decide)]
  rfl
theorem aw_next : thereL awT 1 [100, 47] ≠ 0 ∧ thereL awT 1 [100, 47, 102] ≠ 0 := by decide
theorem aw_paths : pathsP awT 1 5 [] awP = [[100, 47, 102]] := by
  rw [pathsP, if_neg (by decide), aw_cut.1, aw_cut.2]
  rw [show awP.take 1 = [un 42] from rfl, aw_names1]
  simp only [List.flatMap_cons, List.flatMap_nil, List.append_nil, List.nil_append]
  rw [show [100] ++ textL ((awP.take 2).drop 1) = [100, 47] from rfl, if_neg aw_next.1, show awP.drop 2 = [un 102, un 42] from rfl]
  rw [paths_one (by decide) (by decide), aw_names2]
  simp only [List.flatMap_cons, List.flatMap_nil, List.append_nil]
  rw [show ([100, 47] ++ [102] : List UInt8) = [100, 47, 102] from rfl, if_neg aw_next.2, if_pos (by decide)]
theorem aw_tries : triesP awT 1 5 [] awP ≤ 1000 := by
  rw [triesP, if_neg (by decide), aw_cut.1, aw_cut.2]
  rw [show awP.take 1 = [un 42] from rfl, aw_names1]
  simp only [List.map_cons, List.map_nil, List.sum_cons, List.sum_nil, List.nil_append]
  rw [show [100] ++ textL ((awP.take 2).drop 1) = [100, 47] from rfl, if_neg aw_next.1, show awP.drop 2 = [un 102, un 42] from rfl]
  rw [tries_one (by decide) (by decide), aw_names2]
  decide
theorem aw_glob : globL awT 1 awP = [[100, 47, 102]] := by
  unfold globL
  have h3 : (awT.ndI 1).map (fun n => n.d) = some true := by decide
  obtain ⟨n, h1⟩ : ∃ n, awT.ndI 1 = some n := by
    cases h : awT.ndI 1 with
    | none => rw [h] at h3; cases h3
    | some n => exact ⟨n, rfl⟩
  have h2 : n.d = true := by rw [h1] at h3; simpa using h3
  rw [h1]
  simp only
  rw [if_neg (by rw [h2]; decide)]
  rw [show awP.length + 1 = 5 from rfl, show (1 : Int).toNat = 1 from rfl, aw_paths, List.mergeSort_singleton]
  rfl
theorem aw_wild : wildL [un 100] = false := by decide
end Go.Proofs.YtlhmmiolnbgloaaGreatDoor
