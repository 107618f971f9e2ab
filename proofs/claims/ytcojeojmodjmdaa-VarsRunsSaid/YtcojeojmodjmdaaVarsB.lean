/- vars.Vars in memory; Get, room, Set, Unset, Mark. Conditions: each contract's own premises. -/
import Derived.Test.YtcojeojmodjmdaaVarsA
import Derived.Test.YtcojeojmodjmdaaRangeFuncB
import Derived.Test.YtcojeojmodjmdaaRegion
import Derived.StillTailTactics
namespace Go.Proofs.Ytcojeojmodjmdaa
open Go.RowKit

/-- What a variable has behind its name. -/
structure VR where
  value : ByteArray
  e : Bool
  r : Bool
  u : Bool
def VR.zero : VR := ⟨⟨#[]⟩, false, false, false⟩
def venc (n : List UInt8) (x : VR) : Value := .agg #[.string ⟨n.toArray⟩, .string x.value, .bool x.e, .bool x.r, .bool x.u]
theorem ba_back (s : ByteArray) : (⟨s.data.toList.toArray⟩ : ByteArray) = s := by cases s; simp
/-- A row of strings. -/
def ArgsV (w : World) (S : Nat → Prop) (v : Value) (l : List ByteArray) : Prop :=
  ∃ a cap, v = .slice a l.length cap ∧ l.length ≤ cap ∧ (a = none → cap = 0) ∧ (l = [] ∨ ∃ g o, a = some ⟨g, o, none⟩ ∧ S g ∧ g < w.heap.size ∧ ∀ k (hk : k < l.length), w.cell? ⟨g, o + k, none⟩ = some (.string l[k]))
structure VarsF (w : World) (b mb : Nat) (M : KA VR) (args : List ByteArray) (S : Nat → Prop) (av : Value) : Prop where
  hb : w.heap[b]? = some (.cells #[.map (some mb), av] 64 (0, 0))
  hm : SMapAt Try.prog 9 w mb (kmap venc M)
  ne : mb ≠ b
  ha : ArgsV w S av args
  own : S b
  ownm : S mb
  up : ∀ k, w.heap.size ≤ k → S k
  len : M.length ≤ 64
  sz : ∀ p ∈ M, p.1.length ≤ 140737488355328 ∧ p.2.value.size ≤ 65536
def VarsAt (w : World) (b : Nat) (M : KA VR) (args : List ByteArray) (S : Nat → Prop) : Prop := ∃ mb av, VarsF w b mb M args S av

theorem ArgsV.frame {w w' : World} {S S' : Nat → Prop} {v : Value} {l : List ByteArray} (h : ArgsV w S v l) (hf : Fr S' w w') (hd : ∀ k, k < w.heap.size → S k → ¬ S' k) : ArgsV w' S v l := by
  obtain ⟨a, cap, h1, h2, h3, h4⟩ := h
  refine ⟨a, cap, h1, h2, h3, h4.imp id ?_⟩
  rintro ⟨g, o, h5, h6, h7, h8⟩
  exact ⟨g, o, h5, h6, Nat.lt_of_lt_of_le h7 hf.size, fun k hk => (World.cell?_of_block (w := w) (a := ⟨g, o + k, none⟩) (hf.block g h7 (hd g h7 h6))).trans (h8 k hk)⟩
theorem VarsF.frame {w w' : World} {b mb : Nat} {M : KA VR} {args : List ByteArray} {S S' : Nat → Prop} {av : Value} (h : VarsF w b mb M args S av) (hf : Fr S' w w') (hd : ∀ k, k < w.heap.size → S k → ¬ S' k) : VarsF w' b mb M args S av where
  hb := hf.get h.hb (hd _ (blk_lt h.hb) h.own)
  hm := h.hm.frame hf (hd _ h.hm.lt h.ownm)
  ne := h.ne
  ha := h.ha.frame hf hd
  own := h.own
  ownm := h.ownm
  up k hk := h.up k (Nat.le_trans hf.size hk)
  len := h.len
  sz := h.sz
theorem VarsAt.frame {w w' : World} {b : Nat} {M : KA VR} {args : List ByteArray} {S S' : Nat → Prop} (h : VarsAt w b M args S) (hf : Fr S' w w') (hd : ∀ k, k < w.heap.size → S k → ¬ S' k) : VarsAt w' b M args S := by
  obtain ⟨mb, av, h⟩ := h
  exact ⟨mb, av, h.frame hf hd⟩
theorem zeroVar (w : World) : (zeroValue 67).run Try.prog w = .ok (venc [] VR.zero) w := by kernel_rfl

theorem venc_zero : venc [] VR.zero = .agg #[.string ⟨#[]⟩, .string ⟨#[]⟩, .bool false, .bool false, .bool false] := rfl
/-- A look-up in the variables. -/
theorem VarsF.look {w : World} {b mb : Nat} {M : KA VR} {args : List ByteArray} {S : Nat → Prop} {av : Value} (h : VarsF w b mb M args S av) (c : Bool) (s : ByteArray) (hs : s.size ≤ 9223372036854775807) :
    (Instr.lookup 62 (.map (some mb)) (.string s) c).run Try.prog w =
      .ok (if c then .tuple #[((kget s.data.toList M).map (venc s.data.toList)).getD (venc [] VR.zero), .bool (kget s.data.toList M).isSome] else ((kget s.data.toList M).map (venc s.data.toList)).getD (venc [] VR.zero)) w := by
  have := h.hm.look (t := 62) c Try.underlying9 Try.underlying62 (zeroVar w) s (by unfold maxLen; exact hs)
  rw [this, kget_kmap]
  cases kget s.data.toList M <;> rfl
def getR (o : Option VR) : Value := match o with | none => .tuple #[.string ⟨#[]⟩, .bool false] | some x => .tuple #[.string x.value, .bool (!x.u)]
set_option maxHeartbeats 1000000 in
theorem vget_any (w : World) (b : Nat) (M : KA VR) (args : List ByteArray) (S : Nat → Prop) (h : VarsAt w b M args S) (s : ByteArray) (hs : s.size ≤ 9223372036854775807) :
    Calls Try.prog 19 #[.pointer (some ⟨b, 0, none⟩), .string s] w fun e w' => e = .returned (getR (kget s.data.toList M)) ∧ Fr (fun _ => False) w w' := by
  obtain ⟨mb, av, hf⟩ := h
  have hc0 : w.cell? ⟨b, 0, none⟩ = some (.map (some mb)) := by rw [blk_cell hf.hb]; rfl
  have hlk := hf.look true s hs
  rcases hg : kget s.data.toList M with _ | x
  · rw [hg] at hlk
    simp only [Option.map_none, Option.getD_none, Option.isSome_none, if_true] at hlk
    rw [venc_zero] at hlk
    clear hg
    go_enter Try.func19, Try.ntmps19
    go_wp2_with fail
    refine region_still (by kernel_rfl) (by kernel_rfl) ?_
    repeat go_big_quiet_step (fail)
    refine wpQuiet_nil ?_
    go_wp2
    go_ret2
    exact ⟨rfl, ((Fr.refl _ _).alloc _).drew⟩
  · rw [hg] at hlk
    simp only [Option.map_some, Option.getD_some, Option.isSome_some, if_true, venc] at hlk
    clear hg
    go_enter Try.func19, Try.ntmps19
    go_wp2_with fail
    refine region_still (by kernel_rfl) (by kernel_rfl) ?_
    repeat go_big_quiet_step (fail)
    refine wpQuiet_nil ?_
    go_wp2
    go_ret2
    exact ⟨rfl, ((Fr.refl _ _).alloc _).drew⟩
def getX (M : KA VR) (s : List UInt8) : VR := (kget s M).getD VR.zero
theorem VarsF.look1 {w : World} {b mb : Nat} {M : KA VR} {args : List ByteArray} {S : Nat → Prop} {av : Value} (h : VarsF w b mb M args S av) (s : ByteArray) (hs : s.size ≤ 9223372036854775807) :
    ∃ nm, (Instr.lookup 62 (.map (some mb)) (.string s) false).run Try.prog w =
      .ok (.agg #[.string nm, .string (getX M s.data.toList).value, .bool (getX M s.data.toList).e, .bool (getX M s.data.toList).r, .bool (getX M s.data.toList).u]) w := by
  have := h.look false s hs
  unfold getX
  cases hg : kget s.data.toList M with
  | none => exact ⟨⟨#[]⟩, by rw [this, hg]; rfl⟩
  | some x => exact ⟨⟨s.data.toList.toArray⟩, by rw [this, hg]; rfl⟩
theorem VarsF.len1 {w : World} {b mb : Nat} {M : KA VR} {args : List ByteArray} {S : Nat → Prop} {av : Value} (h : VarsF w b mb M args S av) (ty : TypeId) :
    (Builtin.len_ #[62] ty #[.map (some mb)]).run Try.prog w = .ok (.int .i64 M.length) w := by
  rw [h.hm.len (e := 67) Try.underlying62, kmap_length]
def roomB (M : KA VR) (s : List UInt8) : Bool := (kget s M).isSome || decide (M.length < 64)
set_option maxHeartbeats 1000000 in
theorem room_any (w : World) (b : Nat) (M : KA VR) (args : List ByteArray) (S : Nat → Prop) (h : VarsAt w b M args S) (s : ByteArray) (hs : s.size ≤ 9223372036854775807) :
    Calls Try.prog 30 #[.pointer (some ⟨b, 0, none⟩), .string s] w fun e w' => e = .returned (.bool (roomB M s.data.toList)) ∧ Fr (fun _ => False) w w' := by
  obtain ⟨mb, av, hf⟩ := h
  have hc0 : w.cell? ⟨b, 0, none⟩ = some (.map (some mb)) := by rw [blk_cell hf.hb]; rfl
  have hlt := blk_lt hf.hb
  have hlk := hf.look true s hs
  have hlen : ∀ o ty, (Builtin.len_ #[62] ty #[.map (some mb)]).run Try.prog (w.alloc o) = .ok (.int .i64 M.length) (w.alloc o) :=
    fun o ty => (hf.frame ((Fr.refl (fun _ => False) w).alloc o) (fun _ _ _ e => e)).len1 ty
  have hl64 := hf.len
  rcases hg : kget s.data.toList M with _ | x
  · rw [hg] at hlk
    simp only [Option.map_none, Option.getD_none, Option.isSome_none, if_true] at hlk
    rw [venc_zero] at hlk
    have hroom : roomB M s.data.toList = decide (M.length < 64) := by unfold roomB; rw [hg]; rfl
    have hroom := hide hroom
    clear hg
    go_enter Try.func30, Try.ntmps30
    go_wp2_with fail
    go_ret
    refine ⟨ret_bool ?_, (Fr.refl _ _).alloc _⟩
    rw [hroom.out]
    simp
    omega
  · rw [hg] at hlk
    simp only [Option.map_some, Option.getD_some, Option.isSome_some, if_true, venc] at hlk
    have hroom : roomB M s.data.toList = true := by unfold roomB; rw [hg]; rfl
    have hroom := hide hroom
    clear hg
    go_enter Try.func30, Try.ntmps30
    go_wp2_with fail
    go_ret
    exact ⟨ret_bool hroom.out.symm, (Fr.refl _ _).alloc _⟩
theorem field3 (a0 a1 a2 a3 a4 : Value) (W : World) : (Instr.field 67 (.agg #[a0, a1, a2, a3, a4]) 3).run Try.prog W = .ok a3 W := by kernel_rfl
/-- What Set answers, and what it leaves. -/
def setE (M : KA VR) (s : List UInt8) (n : Nat) : Int := if nameB s = false then 22 else if (getX M s).r = true then 63 else if 65536 < n then 66 else if roomB M s = false then 64 else 0
def setM (M : KA VR) (s : List UInt8) (v : ByteArray) : KA VR := if setE M s v.size = 0 then kput s ⟨v, (getX M s).e, (getX M s).r, false⟩ M else M
def SetVPost (w : World) (b : Nat) (M M' : KA VR) (args : List ByteArray) (S : Nat → Prop) (ev : Int) (e : Ending) (w' : World) : Prop :=
  e = .returned (.int .i64 ev) ∧ VarsAt w' b M' args S ∧ Fr S w w'
theorem VarsF.put {w w' : World} {b mb : Nat} {M : KA VR} {args : List ByteArray} {S : Nat → Prop} {av : Value} (h : VarsF w b mb M args S av) (s : List UInt8) (x : VR) (hr : roomB M s = true) (hsl : s.length ≤ 140737488355328) (hxv : x.value.size ≤ 65536)
    (hm : SMapAt Try.prog 9 w' mb (kput s (venc s x) (kmap venc M))) (hf : Fr (fun q => q = mb) w w') : VarsF w' b mb (kput s x M) args S av where
  hb := hf.get h.hb (fun e => h.ne e.symm)
  hm := by rw [← kput_kmap]; exact hm
  ne := h.ne
  ha := by
    obtain ⟨a, cap, h1, h2, h3, h4⟩ := h.ha
    refine ⟨a, cap, h1, h2, h3, h4.imp id ?_⟩
    rintro ⟨g, o, h5, h6, h7, h8⟩
    refine ⟨g, o, h5, h6, Nat.lt_of_lt_of_le h7 hf.size, fun k hk => (World.cell?_of_block (w := w) (a := ⟨g, o + k, none⟩) (hf.block g h7 (fun e => ?_))).trans (h8 k hk)⟩
    obtain ⟨⟨es, clock, hb, _⟩, _⟩ := h.hm
    have := h8 k hk
    rw [e] at this
    simp [World.cell?, hb] at this
  own := h.own
  ownm := h.ownm
  up k hk := h.up k (Nat.le_trans hf.size hk)
  len := by
    have hs : KSorted M := by
      have := h.hm.sorted
      unfold KSorted kmap at this
      rw [List.pairwise_map] at this
      exact this
    rw [kput_length hs]
    have := h.len
    unfold roomB at hr
    split
    · exact this
    · rename_i e
      simp [e] at hr
      omega
  sz p hp := by
    rcases kput_mem hp with rfl | hp
    · exact ⟨hsl, hxv⟩
    · exact h.sz p hp
set_option maxRecDepth 100000 in
set_option maxHeartbeats 4000000 in
theorem vset_any (w : World) (b : Nat) (M : KA VR) (args : List ByteArray) (S : Nat → Prop) (h : VarsAt w b M args S) (s v : ByteArray) (hs47 : s.size ≤ 140737488355328) (hv : v.size ≤ 9223372036854775807) :
    Calls Try.prog 10 #[.pointer (some ⟨b, 0, none⟩), .string s, .string v] w (SetVPost w b M (setM M s.data.toList v) args S (setE M s.data.toList v.size)) := by
  have hs : s.size ≤ 9223372036854775807 := by omega
  cases hn : nameB s.data.toList with
  | false =>
    have hE : setE M s.data.toList v.size = 22 := by unfold setE; rw [if_pos hn]
    have hM : setM M s.data.toList v = M := by unfold setM; rw [hE]; rfl
    rw [hE, hM]
    go_enter Try.func10, Try.ntmps10
    go_wp2_with fail
    refine (name_any s hs w).mono ?_
    rintro e w1 ⟨rfl, hf1⟩
    rw [hn]
    have hfin : SetVPost w b M M args S 22 (.returned (.int .i64 22)) w1 := ⟨rfl, h.frame hf1 (fun _ _ _ e => e), hf1.mono (fun _ _ e => e.elim)⟩
    clear hE hM hn
    go_wp2_with fail
    go_ret
    exact hfin
  | true =>
    obtain ⟨mb, av, hf0⟩ := id h
    have hE1 : setE M s.data.toList v.size = if (getX M s.data.toList).r = true then 63 else if 65536 < v.size then 66 else if roomB M s.data.toList = false then 64 else 0 := by
      unfold setE; rw [if_neg (by simp [hn])]
    have HE1 := hide hE1
    have Hn := hide hn
    clear hE1 hn
    go_enter Try.func10, Try.ntmps10
    go_wp2_with fail
    refine (name_any s hs w).mono ?_
    rintro e w1 ⟨rfl, hf1⟩
    rw [Hn.out]
    have h1 := h.frame hf1 (fun _ _ _ e => e)
    have hff := hf0.frame hf1 (fun _ _ _ e => e)
    have hc0 : w1.cell? ⟨b, 0, none⟩ = some (.map (some mb)) := by rw [blk_cell hff.hb]; rfl
    have hlt := blk_lt hff.hb
    obtain ⟨nm, hlk⟩ := hff.look1 s hs
    have hf3 := field3
    have hsame : ∀ ev : Int, setE M s.data.toList v.size = ev → ev ≠ 0 → ∀ w', Fr (fun _ => False) w w' → SetVPost w b M (setM M s.data.toList v) args S (setE M s.data.toList v.size) (.returned (.int .i64 ev)) w' := by
      intro ev he hne w' hf
      rw [show setM M s.data.toList v = M by unfold setM; rw [if_neg (by rw [he]; exact hne)], he]
      exact ⟨rfl, h.frame hf (fun _ _ _ e => e), hf.mono (fun _ _ e => e.elim)⟩
    have Hsame := hide hsame
    clear hsame
    cases hr : (getX M s.data.toList).r with
    | true =>
      have h63 := Hsame.out 63 (by rw [HE1.out, if_pos hr]) (by decide) w1 hf1
      have h63 := hide h63
      rw [hr] at hlk
      clear hr
      go_wp2_with fail
      go_ret
      exact h63.out
    | false =>
      have Hr := hide hr
      rw [hr] at hlk
      clear hr
      by_cases hvs : 65536 < (v.size : Int)
      · have h66 := Hsame.out 66 (by rw [HE1.out, if_neg (by simp [Hr.out]), if_pos (by omega)]) (by decide) w1 hf1
        have h66 := hide h66
        go_wp2_with fail
        go_ret
        exact h66.out
      · have Hvs : ¬ 65536 < v.size := by omega
        go_wp2_with fail
        refine (room_any w1 b M args S h1 s hs).mono ?_
        rintro e w2 ⟨rfl, hf2⟩
        have hf12 := hf1.trans hf2
        cases hro : roomB M s.data.toList with
        | false =>
          have h64 := Hsame.out 64 (by rw [HE1.out, if_neg (by simp [Hr.out]), if_neg Hvs, if_pos hro]) (by decide) w2 hf12
          have h64 := hide h64
          clear hro
          go_wp2_with fail
          go_ret
          exact h64.out
        | true =>
          have Hro := hide hro
          clear hro hlk hc0
          have hf2' := hff.frame hf2 (fun _ _ _ e => e)
          have hc0 : w2.cell? ⟨b, 0, none⟩ = some (.map (some mb)) := by rw [blk_cell hf2'.hb]; rfl
          obtain ⟨nm, hlk⟩ := hf2'.look1 s hs
          have hlt2 := blk_lt hf2'.hb
          have hfW : Fr (fun _ => False) w2 (w2.alloc (.cells #[.string s, .string v, .bool (getX M s.data.toList).e, .bool (getX M s.data.toList).r, .bool false] 67 (0, 0))).drew := ((Fr.refl _ _).alloc _).drew
          have hfW' := hf2'.frame hfW (fun _ _ _ e => e)
          have hl64 := hf2'.len
          clear hf3
          obtain ⟨w3, hup, hm3, hf3⟩ := hfW'.hm.update (t := 62) Try.underlying9 Try.underlying62 (by rw [kmap_length]; unfold maxLen; omega) s (by unfold maxLen; exact hs)
            (.agg #[.string s, .string v, .bool (getX M s.data.toList).e, .bool (getX M s.data.toList).r, .bool false])
          have hE0 : setE M s.data.toList v.size = 0 := by rw [HE1.out, if_neg (by simp [Hr.out]), if_neg Hvs, if_neg (by simp [Hro.out])]
          have hfin : SetVPost w b M (setM M s.data.toList v) args S (setE M s.data.toList v.size) (.returned (.int .i64 0)) w3 := by
            rw [show setM M s.data.toList v = kput s.data.toList ⟨v, (getX M s.data.toList).e, (getX M s.data.toList).r, false⟩ M by unfold setM; rw [if_pos hE0], hE0]
            refine ⟨rfl, ⟨mb, av, hfW'.put s.data.toList _ Hro.out (by rw [ba_len]; exact hs47) (by show v.size ≤ 65536; omega) ?_ hf3⟩, ((hf12.trans hfW).mono (fun _ _ e => e.elim)).trans (hf3.mono (fun _ _ e => e ▸ hf0.ownm))⟩
            unfold venc
            rw [ba_back]
            exact hm3
          have hfin := hide hfin
          rw [Hr.out] at hup hlk
          clear hE0 hm3 hf3 hfW hfW'
          generalize (getX M s.data.toList).e = xe at *
          generalize (getX M s.data.toList).u = xu at *
          generalize (getX M s.data.toList).value = xv at *
          go_wp2_with fail
          refine region_tail 6 (by kernel_rfl) (by kernel_rfl) ?_
          simp only [List.take_succ_cons, List.take_zero, List.drop_succ_cons, List.drop_zero]
          repeat go_big_quiet_step (fail)
          refine wpQuiet_nil ?_
          go_wp2_with fail
          go_ret
          exact hfin.out
end Go.Proofs.Ytcojeojmodjmdaa
