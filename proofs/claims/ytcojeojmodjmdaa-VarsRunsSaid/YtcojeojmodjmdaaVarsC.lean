/- vars.Vars: Unset, Mark. Conditions: each contract's own premises. -/
import Derived.Test.YtcojeojmodjmdaaVarsB
namespace Go.Proofs.Ytcojeojmodjmdaa
open Go.RowKit

theorem VarsF.args_map {w : World} {b mb : Nat} {M : KA VR} {args : List ByteArray} {S : Nat → Prop} {av : Value} (h : VarsF w b mb M args S av) {w' : World} (hf : Fr (fun q => q = mb) w w') : ArgsV w' S av args := by
  obtain ⟨a, cap, h1, h2, h3, h4⟩ := h.ha
  refine ⟨a, cap, h1, h2, h3, h4.imp id ?_⟩
  rintro ⟨g, o, h5, h6, h7, h8⟩
  refine ⟨g, o, h5, h6, Nat.lt_of_lt_of_le h7 hf.size, fun k hk => (World.cell?_of_block (w := w) (a := ⟨g, o + k, none⟩) (hf.block g h7 (fun e => ?_))).trans (h8 k hk)⟩
  obtain ⟨⟨es, clock, hb, _⟩, _⟩ := h.hm
  have := h8 k hk
  rw [e] at this
  simp [World.cell?, hb] at this
theorem VarsF.sorted {w : World} {b mb : Nat} {M : KA VR} {args : List ByteArray} {S : Nat → Prop} {av : Value} (h : VarsF w b mb M args S av) : KSorted M := by
  have := h.hm.sorted
  unfold KSorted kmap at this
  rw [List.pairwise_map] at this
  exact this
def unsetE (M : KA VR) (s : List UInt8) : Int := if nameB s = false then 22 else if (getX M s).r = true then 63 else 0
def unsetM (M : KA VR) (s : List UInt8) : KA VR := if unsetE M s = 0 then kdel s M else M
set_option maxRecDepth 100000 in
set_option maxHeartbeats 4000000 in
theorem vunset_any (w : World) (b : Nat) (M : KA VR) (args : List ByteArray) (S : Nat → Prop) (h : VarsAt w b M args S) (s : ByteArray) (hs : s.size ≤ 9223372036854775807) :
    Calls Try.prog 12 #[.pointer (some ⟨b, 0, none⟩), .string s] w (SetVPost w b M (unsetM M s.data.toList) args S (unsetE M s.data.toList)) := by
  obtain ⟨mb, av, hf0⟩ := id h
  have hsame : ∀ ev : Int, unsetE M s.data.toList = ev → ev ≠ 0 → ∀ w', Fr (fun _ => False) w w' → SetVPost w b M (unsetM M s.data.toList) args S (unsetE M s.data.toList) (.returned (.int .i64 ev)) w' := by
    intro ev he hne w' hf
    rw [show unsetM M s.data.toList = M by unfold unsetM; rw [if_neg (by rw [he]; exact hne)], he]
    exact ⟨rfl, h.frame hf (fun _ _ _ e => e), hf.mono (fun _ _ e => e.elim)⟩
  have Hsame := hide hsame
  clear hsame
  have hE : unsetE M s.data.toList = if nameB s.data.toList = false then 22 else if (getX M s.data.toList).r = true then 63 else 0 := rfl
  have HE := hide hE
  clear hE
  go_enter Try.func12, Try.ntmps12
  go_wp2_with fail
  refine (name_any s hs w).mono ?_
  rintro e w1 ⟨rfl, hf1⟩
  cases hn : nameB s.data.toList with
  | false =>
    have h22 := hide (Hsame.out 22 (by rw [HE.out, if_pos hn]) (by decide) w1 hf1)
    clear hn
    go_wp2_with fail
    go_ret
    exact h22.out
  | true =>
    have Hn := hide hn
    clear hn
    have hff := hf0.frame hf1 (fun _ _ _ e => e)
    have hc0 : w1.cell? ⟨b, 0, none⟩ = some (.map (some mb)) := by rw [blk_cell hff.hb]; rfl
    have hlt := blk_lt hff.hb
    obtain ⟨nm, hlk⟩ := hff.look1 s hs
    have hf3 := field3
    cases hr : (getX M s.data.toList).r with
    | true =>
      have h63 := hide (Hsame.out 63 (by rw [HE.out, if_neg (by simp [Hn.out]), if_pos hr]) (by decide) w1 hf1)
      rw [hr] at hlk
      clear hr
      go_wp2_with fail
      go_ret
      exact h63.out
    | false =>
      have Hr := hide hr
      rw [hr] at hlk
      clear hr
      obtain ⟨w2, hdel, hm2, hf2⟩ := hff.hm.delete (t := 62) Try.underlying9 Try.underlying62 s (by unfold maxLen; exact hs) 0
      have hfin : SetVPost w b M (unsetM M s.data.toList) args S (unsetE M s.data.toList) (.returned (.int .i64 0)) w2 := by
        have hE0 : unsetE M s.data.toList = 0 := by rw [HE.out, if_neg (by simp [Hn.out]), if_neg (by simp [Hr.out])]
        rw [show unsetM M s.data.toList = kdel s.data.toList M by unfold unsetM; rw [if_pos hE0], hE0]
        refine ⟨rfl, ⟨mb, av, hf2.get hff.hb (fun e => hff.ne e.symm), by rw [← kdel_kmap]; exact hm2, hff.ne, hff.args_map hf2, hff.own, hff.ownm, fun k hk => hff.up k (Nat.le_trans hf2.size hk), ?_, fun p hp => hff.sz p (List.mem_filter.1 hp).1⟩, (hf1.mono (fun _ _ e => e.elim)).trans (hf2.mono (fun _ _ e => e ▸ hf0.ownm))⟩
        exact Nat.le_trans (List.length_filter_le _ _) hff.len
      have hfin := hide hfin
      clear hm2 hf2
      go_wp2_with fail
      go_ret
      exact hfin.out
theorem VarsF.upd {w : World} {b mb : Nat} {M : KA VR} {args : List ByteArray} {S : Nat → Prop} {av : Value} (h : VarsF w b mb M args S av) (s : ByteArray) (hs47 : s.size ≤ 140737488355328) (hr : roomB M s.data.toList = true) (x : VR) (hxv : x.value.size ≤ 65536) (W : World) (hf : Fr (fun _ => False) w W) :
    ∃ w3, (Instr.mapUpdate 62 (.map (some mb)) (.string s) (.agg #[.string s, .string x.value, .bool x.e, .bool x.r, .bool x.u])).run Try.prog W = .ok () w3 ∧ VarsAt w3 b (kput s.data.toList x M) args S ∧ Fr S w w3 := by
  have hW := h.frame hf (fun _ _ _ e => e)
  have hl := h.len
  obtain ⟨w3, hup, hm3, hf3⟩ := hW.hm.update (t := 62) Try.underlying9 Try.underlying62 (by rw [kmap_length]; unfold maxLen; omega) s (by unfold maxLen; omega)
    (.agg #[.string s, .string x.value, .bool x.e, .bool x.r, .bool x.u])
  refine ⟨w3, hup, ⟨mb, av, hW.put s.data.toList x hr (by rw [ba_len]; exact hs47) hxv ?_ hf3⟩, (hf.mono (fun _ _ e => e.elim)).trans (hf3.mono (fun _ _ e => e ▸ h.ownm))⟩
  unfold venc
  rw [ba_back]
  exact hm3
def markE (M : KA VR) (s : List UInt8) (ex ro : Bool) : Int := if nameB s = false then 22 else if ex = false ∧ ro = false then 0 else if roomB M s = false then 64 else 0
/-- What Mark makes of a variable, or of none. -/
def markX (o : Option VR) (ex ro : Bool) : VR := match o with | none => ⟨⟨#[]⟩, ex, ro, true⟩ | some x => ⟨x.value, x.e || ex, x.r || ro, x.u⟩
theorem markX_size {M : KA VR} {s : List UInt8} {ex ro : Bool} (h : ∀ p ∈ M, p.1.length ≤ 140737488355328 ∧ p.2.value.size ≤ 65536) : (markX (kget s M) ex ro).value.size ≤ 65536 := by
  cases hg : kget s M with
  | none => exact Nat.zero_le _
  | some x => exact (h _ (kget_mem hg)).2
def markM (M : KA VR) (s : List UInt8) (ex ro : Bool) : KA VR := if markE M s ex ro = 0 ∧ ¬ (ex = false ∧ ro = false) then kput s (markX (kget s M) ex ro) M else M
set_option maxRecDepth 100000 in
set_option maxHeartbeats 8000000 in
theorem vmark_any (w : World) (b : Nat) (M : KA VR) (args : List ByteArray) (S : Nat → Prop) (h : VarsAt w b M args S) (s : ByteArray) (hs47 : s.size ≤ 140737488355328) (ex ro : Bool) :
    Calls Try.prog 11 #[.pointer (some ⟨b, 0, none⟩), .string s, .bool ex, .bool ro] w (SetVPost w b M (markM M s.data.toList ex ro) args S (markE M s.data.toList ex ro)) := by
  have hs : s.size ≤ 9223372036854775807 := by omega
  obtain ⟨mb, av, hf0⟩ := id h
  have hsame : ∀ ev : Int, markE M s.data.toList ex ro = ev → (ev ≠ 0 ∨ (ex = false ∧ ro = false)) → ∀ w', Fr (fun _ => False) w w' → SetVPost w b M (markM M s.data.toList ex ro) args S (markE M s.data.toList ex ro) (.returned (.int .i64 ev)) w' := by
    intro ev he hne w' hf
    rw [show markM M s.data.toList ex ro = M by
      unfold markM; rw [if_neg]
      rintro ⟨h1, h2⟩
      rcases hne with hne | hne
      · rw [he] at h1; exact hne h1
      · exact h2 hne, he]
    exact ⟨rfl, h.frame hf (fun _ _ _ e => e), hf.mono (fun _ _ e => e.elim)⟩
  have Hsame := hide hsame
  clear hsame
  have hE : markE M s.data.toList ex ro = if nameB s.data.toList = false then 22 else if ex = false ∧ ro = false then 0 else if roomB M s.data.toList = false then 64 else 0 := rfl
  have HE := hide hE
  clear hE
  go_enter Try.func11, Try.ntmps11
  go_wp2_with fail
  refine (name_any s hs w).mono ?_
  rintro e w1 ⟨rfl, hf1⟩
  cases hn : nameB s.data.toList with
  | false =>
    have h22 := hide (Hsame.out 22 (by rw [HE.out, if_pos hn]) (.inl (by decide)) w1 hf1)
    clear hn
    go_wp2_with fail
    go_ret
    exact h22.out
  | true =>
    have Hn := hide hn
    clear hn
    by_cases hxr : ex = false ∧ ro = false
    · have h0 := hide (Hsame.out 0 (by rw [HE.out, if_neg (by simp [Hn.out]), if_pos hxr]) (.inr hxr) w1 hf1)
      obtain ⟨rfl, rfl⟩ := hxr
      go_wp2_with fail
      go_ret
      exact h0.out
    · have Hxr := hide hxr
      clear hxr
      have hff := hf0.frame hf1 (fun _ _ _ e => e)
      have h1 := h.frame hf1 (fun _ _ _ e => e)
      have hfin64 : roomB M s.data.toList = false → ∀ w', Fr (fun _ => False) w w' → SetVPost w b M (markM M s.data.toList ex ro) args S (markE M s.data.toList ex ro) (.returned (.int .i64 64)) w' := (fun hro => Hsame.out 64 (by rw [HE.out, if_neg (by simp [Hn.out]), if_neg Hxr.out, if_pos hro]) (.inl (by decide)))
      have hfin64 := hide hfin64
      have hfin0 : roomB M s.data.toList = true → ∀ w3, VarsAt w3 b (kput s.data.toList (markX (kget s.data.toList M) ex ro) M) args S → Fr S w w3 → SetVPost w b M (markM M s.data.toList ex ro) args S (markE M s.data.toList ex ro) (.returned (.int .i64 0)) w3 := by
        intro hro w3 h3 h4
        have hE0 : markE M s.data.toList ex ro = 0 := by rw [HE.out, if_neg (by simp [Hn.out]), if_neg Hxr.out, if_neg (by simp [hro])]
        rw [show markM M s.data.toList ex ro = kput s.data.toList (markX (kget s.data.toList M) ex ro) M by unfold markM; rw [if_pos ⟨hE0, Hxr.out⟩], hE0]
        exact ⟨rfl, h3, h4⟩
      have hU : roomB M s.data.toList = true → ∀ w2, Fr (fun _ => False) w1 w2 → ∃ w3, (Instr.mapUpdate 62 (.map (some mb)) (.string s) (.agg #[.string s, .string (markX (kget s.data.toList M) ex ro).value, .bool (markX (kget s.data.toList M) ex ro).e, .bool (markX (kget s.data.toList M) ex ro).r, .bool (markX (kget s.data.toList M) ex ro).u])).run Try.prog
          (w2.alloc (.cells #[.string s, .string (markX (kget s.data.toList M) ex ro).value, .bool (markX (kget s.data.toList M) ex ro).e, .bool (markX (kget s.data.toList M) ex ro).r, .bool (markX (kget s.data.toList M) ex ro).u] 67 (0, 0))).drew = .ok () w3 ∧ Hid (SetVPost w b M (markM M s.data.toList ex ro) args S (markE M s.data.toList ex ro) (.returned (.int .i64 0)) w3) := by
        intro hro w2 hf2
        have hf2' := hff.frame hf2 (fun _ _ _ e => e)
        obtain ⟨w3, hup, hV, hf3⟩ := hf2'.upd s hs47 hro (markX (kget s.data.toList M) ex ro) (markX_size hf2'.sz) _ ((Fr.refl (fun _ => False) w2).alloc (.cells #[.string s, .string (markX (kget s.data.toList M) ex ro).value, .bool (markX (kget s.data.toList M) ex ro).e, .bool (markX (kget s.data.toList M) ex ro).r, .bool (markX (kget s.data.toList M) ex ro).u] 67 (0, 0))).drew
        exact ⟨w3, hup, hfin0 hro w3 hV (((hf1.trans hf2).mono (fun _ _ e => e.elim)).trans hf3)⟩
      have hU := hide hU
      clear hfin0
      generalize hP : SetVPost w b M (markM M s.data.toList ex ro) args S (markE M s.data.toList ex ro) = P at *
      clear hP HE Hsame h hf0
      have hroom := hide (room_any w1 b M args S h1 s hs)
      clear h1
      cases ex <;> cases ro
      · exact absurd ⟨rfl, rfl⟩ Hxr.out
      all_goals
        clear Hxr
        go_wp2_with fail
        refine hroom.out.mono ?_
        rintro e w2 ⟨rfl, hf2⟩
        have hf12 := hf1.trans hf2
        cases hro : roomB M s.data.toList with
        | false =>
          have h64 := hide (hfin64.out hro w2 hf12)
          clear hro
          go_wp2_with fail
          exact h64.out
        | true =>
          have hU := hU.out hro w2 hf2
          clear hro
          have hf2' := hff.frame hf2 (fun _ _ _ e => e)
          have hc0 : w2.cell? ⟨b, 0, none⟩ = some (.map (some mb)) := by rw [blk_cell hf2'.hb]; rfl
          have hlk := hf2'.look true s hs
          have hlt2 := blk_lt hf2'.hb
          clear hf2' hf1 hf2 hf12 hff
          rcases hg : kget s.data.toList M with _ | ⟨xv, xe, xr, xu⟩
          · rw [hg] at hlk hU
            simp only [Option.map_none, Option.getD_none, Option.isSome_none, if_true, venc_zero] at hlk
            simp only [markX] at hU
            obtain ⟨w3, hup, hfin⟩ := hU
            clear hg
            go_wp2_with fail
            refine region_tail 6 (by kernel_rfl) (by kernel_rfl) ?_
            simp only [List.take_succ_cons, List.take_zero, List.drop_succ_cons, List.drop_zero]
            repeat go_big_quiet_step (fail)
            refine wpQuiet_nil ?_
            go_wp2_with fail
            exact hfin.out
          · rw [hg] at hlk hU
            simp only [Option.map_some, Option.getD_some, Option.isSome_some, if_true, venc, ba_back] at hlk
            simp only [markX] at hU
            obtain ⟨w3, hup, hfin⟩ := hU
            clear hg
            cases xe <;> cases xr
            all_goals
              simp only [Bool.or_false, Bool.or_true, Bool.false_or, Bool.true_or] at hup
              go_wp2_with fail
              refine region_tail 6 (by kernel_rfl) (by kernel_rfl) ?_
              simp only [List.take_succ_cons, List.take_zero, List.drop_succ_cons, List.drop_zero]
              repeat go_big_quiet_step (fail)
              refine wpQuiet_nil ?_
              go_wp2_with fail
              exact hfin.out
end Go.Proofs.Ytcojeojmodjmdaa
