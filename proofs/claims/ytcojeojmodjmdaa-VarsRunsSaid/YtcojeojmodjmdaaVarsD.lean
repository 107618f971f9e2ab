/- vars.Vars: SetArgs, Shift, Args, Copy; the document's Texts; slices.Clone at strings. Conditions: each contract's own premises. -/
import Derived.Test.YtcojeojmodjmdaaVarsAwake
import Derived.Test.YtcojeojmodjmdaaRegionTwo
import Derived.Test.YtcojeojmodjmdaaShelf
import Derived.Maps.AppendAt
import Derived.Laws.Rows
import Derived.Lib.SliceRun
namespace Go.Proofs.Ytcojeojmodjmdaa
open Go.RowKit

/-- A row of strings that came in. -/
def StrRow (W : World) (a : Option Addr) (len cap : Nat) : Prop := ∃ l : List ByteArray, l.length ≤ 9223372036854775807 ∧ ArgsV W (fun k => k < W.heap.size) (.slice a len cap) l
theorem ArgsV.form {w : World} {S : Nat → Prop} {v : Value} {l : List ByteArray} (h : ArgsV w S v l) : ∃ a cap, v = .slice a l.length cap := by
  obtain ⟨a, cap, h1, _⟩ := h
  exact ⟨a, cap, h1⟩
theorem ArgsV.mono {w : World} {S S' : Nat → Prop} {v : Value} {l : List ByteArray} (h : ArgsV w S v l) (hS : ∀ k, k < w.heap.size → S k → S' k) : ArgsV w S' v l := by
  obtain ⟨a, cap, h1, h2, h3, h4⟩ := h
  refine ⟨a, cap, h1, h2, h3, h4.imp id ?_⟩
  rintro ⟨g, o, h5, h6, h7, h8⟩
  exact ⟨g, o, h5, hS g h7 h6, h7, h8⟩
theorem own_args {w : World} {base n : Nat} {v : Value} {l : List ByteArray} {S : Nat → Prop} (h : w.ownsRow base 9 1 v n (strs l)) (hn : n = l.length) (hS : ∀ k, base ≤ k → S k) : ArgsV w S v l := by
  subst hn
  have hh := h
  obtain ⟨_, h1 | ⟨g, cap, cur, h1, hb, hg, h2, _⟩⟩ := h
  · exact ⟨none, 0, by rw [h1.1, h1.2], by rw [h1.2]; exact Nat.le_refl _, fun _ => rfl, .inl (List.eq_nil_of_length_eq_zero h1.2)⟩
  · subst h1
    refine ⟨_, _, rfl, h2, fun e => by simp at e, ?_⟩
    by_cases h0 : l.length = 0
    · exact .inl (List.eq_nil_of_length_eq_zero h0)
    · obtain ⟨g', he, h3, h4, h5⟩ := own_cells hh (by omega)
      refine .inr ⟨g', 0, he, hS _ h3, h4, fun k hk => ?_⟩
      rw [Nat.zero_add]
      exact h5 k _ (by simp [strs, hk])
def ClonePost (w : World) (l : List ByteArray) (e : Ending) (w' : World) : Prop := ∃ v', e = .returned v' ∧ ArgsV w' (fun k => w.heap.size ≤ k) v' l ∧ Fr (fun _ => False) w w'
set_option maxRecDepth 100000 in
set_option maxHeartbeats 1000000 in
theorem sclone_any (w : World) (S : Nat → Prop) (v : Value) (l : List ByteArray) (h : ArgsV w S v l) (hl : l.length * 16 ≤ 140737488355328) : Calls Try.prog 31 #[v] w (ClonePost w l) := by
  have q22 : ∀ (w : World) (a : Option Addr) (n c n' c' : Nat), (binOp .eql 22 (.slice a n c) (.slice none n' c')).run Try.prog w = .ok (.bool a.isNone) w := fun w a n c n' c' => Lib.run_eql_slice_nil w _ _ a n c n' c' Try.underlying22
  obtain ⟨a, cap, rfl, h2, h3, h4⟩ := h
  cases a with
  | none =>
    have e0 : l = [] := List.eq_nil_of_length_eq_zero (by have := h3 rfl; omega)
    subst e0
    go_enter Try.func31, Try.ntmps31
    go_wp2
    go_ret
    exact ⟨_, rfl, ⟨none, 0, rfl, Nat.le_refl _, fun _ => rfl, .inl rfl⟩, Fr.refl _ _⟩
  | some a =>
    obtain ⟨i0, hinf, hz0⟩ := Option.map_eq_some_iff.1 Try.info9
    simp only [Prod.mk.injEq] at hz0
    obtain ⟨hz0, hz1, hz2⟩ := hz0
    have hc : ∀ j u, (strs l)[j]? = some u → w.cell? (a.add j) = some u := by
      intro j u hj
      rcases h4 with h4 | ⟨g, o, h5, _, _, h8⟩
      · subst h4; simp [strs] at hj
      · cases h5
        rw [Addr.add_lit]
        simp only [strs, List.getElem?_map, Option.map_eq_some_iff] at hj
        obtain ⟨s, hs, rfl⟩ := hj
        obtain ⟨hk, rfl⟩ := List.getElem?_eq_some_iff.1 hs
        exact h8 j hk
    have A : Aside (∀ j u, (strs l)[j]? = some u → w.cell? (a.add j) = some u) := hc
    clear hc
    go_enter Try.func31, Try.ntmps31
    go_wp2_with (at_builtin; refine wpList_append_own_at _ rfl _ _ 22 rfl w.heap.size 9 i0 (.string ⟨#[]⟩) 1 16 Try.underlying22 hinf hz0 hz1 hz2 rfl (by decide) _ _ _ rfl (World.ownsRow_made w #[] 0 (Nat.le_refl _) (Nat.zero_le _) (by simp)) a l.length cap (strs l) rfl ?qc1 ?qc2 ?qc3 ?qc4 ?qc5 ?qc6 ?_)
    case qc1 => simp [strs]
    case qc2 =>
      intro j u hj
      have := A.out j u hj
      exact (World.cell?_of_block (Below.heap_alloc w _ _ (World.block_lt_of_cell? _ _ this))).trans this
    case qc3 => intro u hu; simp only [strs, List.mem_map] at hu; obtain ⟨s, _, rfl⟩ := hu; rfl
    case qc4 => unfold maxLen; omega
    case qc5 => omega
    case qc6 => simp
    intro v' w1 hown hgrow _ _
    have hB := ((Below.refl _ w).alloc (Nat.le_refl _) (Obj.cells #[] 9 (0, 0))).grown hgrow (by simp) (by intro k hk; simp [Value.ownBlock] at hk; omega)
    go_wp2
    go_ret
    exact ⟨v', rfl, own_args (by simpa using hown) (by simp) (fun k hk => hk), Fr.of_below hB _⟩
def setargsE (l : List ByteArray) : Int := if 200 < l.length then 66 else 0
def setargsM (l args : List ByteArray) : List ByteArray := if 200 < l.length then args else l
def ArgsPost (w : World) (b : Nat) (M : KA VR) (args : List ByteArray) (S : Nat → Prop) (ev : Int) (e : Ending) (w' : World) : Prop :=
  e = .returned (.int .i64 ev) ∧ VarsAt w' b M args S ∧ Fr (fun k => k = b) w w'
theorem VarsAt.up' {w : World} {b : Nat} {M : KA VR} {args : List ByteArray} {S : Nat → Prop} (h : VarsAt w b M args S) (k : Nat) (hk : w.heap.size ≤ k) : S k := by
  obtain ⟨_, _, h⟩ := h
  exact h.up k hk
/-- The block itself is given another row. -/
theorem VarsF.newArgs {w : World} {b mb : Nat} {M : KA VR} {args l : List ByteArray} {S : Nat → Prop} {av v : Value} (h : VarsF w b mb M args S av) (hl : ArgsV w S v l) : VarsF (w.setCell ⟨b, 1, none⟩ v) b mb M l S v := by
  have hfs := frSet w b 1 v
  refine ⟨by rw [blk_set h.hb]; rfl, h.hm.frame hfs h.ne, h.ne, ?_, h.own, h.ownm, fun k hk => h.up k (by simpa [World.setCell] using hk), h.len, h.sz⟩
  obtain ⟨a, cap, h1, h2, h3, h4⟩ := hl
  refine ⟨a, cap, h1, h2, h3, ?_⟩
  by_cases h0 : l = []
  · exact .inl h0
  rcases h4 with h4 | ⟨g, o, h5, h6, h7, h8⟩
  · exact .inl h4
  have hne : g ≠ b := by
    rintro rfl
    have hlen : 0 < l.length := List.length_pos_iff.2 h0
    have := h8 0 hlen
    rw [blk_cell h.hb] at this
    obtain ⟨a', cap', h1', _⟩ := h.ha
    subst h1'
    rcases o with _ | _ | o <;> simp at this
  exact .inr ⟨g, o, h5, h6, by simpa [World.setCell] using h7, fun k hk => (World.cell?_of_block (w := w) (a := ⟨g, o + k, none⟩) (hfs.block g h7 hne)).trans (h8 k hk)⟩
set_option maxRecDepth 100000 in
set_option maxHeartbeats 1000000 in
theorem setargs_any (w : World) (b : Nat) (M : KA VR) (args : List ByteArray) (S : Nat → Prop) (h : VarsAt w b M args S) (v : Value) (l : List ByteArray) (S' : Nat → Prop) (hv : ArgsV w S' v l) (hlen : l.length ≤ 9223372036854775807) :
    Calls Try.prog 14 #[.pointer (some ⟨b, 0, none⟩), v] w (ArgsPost w b M (setargsM l args) S (setargsE l)) := by
  obtain ⟨mb, av, hf⟩ := id h
  have hb := hf.hb
  obtain ⟨a, cap, rfl⟩ := hv.form
  unfold setargsE setargsM
  by_cases h2 : 200 < l.length
  · rw [if_pos h2, if_pos h2]
    go_enter Try.func14, Try.ntmps14
    go_wp2_with fail
    go_ret
    exact ⟨rfl, h, Fr.refl _ _⟩
  · rw [if_neg h2, if_neg h2]
    go_enter Try.func14, Try.ntmps14
    go_wp2_with fail
    refine (sclone_any w S' _ l hv (by omega)).mono ?_
    rintro e w1 ⟨v', rfl, hv', hf1⟩
    have hff := hf.frame hf1 (fun _ _ _ e => e)
    have hc1 : w1.cell? ⟨b, 1, none⟩ = some av := by rw [blk_cell hff.hb]; rfl
    have hz1 := blk_frozen hff.hb
    have hlt := blk_lt hff.hb
    have hlt0 := blk_lt hf.hb
    have hnew := hff.newArgs (hv'.mono (fun k _ hk => h.up' k hk))
    have hnew := hide hnew
    obtain ⟨a', cap', rfl⟩ := hv'.form
    obtain ⟨a'', cap'', rfl⟩ := hff.ha.form
    go_wp2_with fail
    go_ret
    exact ⟨rfl, ⟨_, _, hnew.out⟩, (hf1.mono (fun _ _ e => e.elim)).trans (frSet _ _ _ _)⟩
def shiftE (n : Int) (args : List ByteArray) : Int := if n < 0 ∨ (args.length : Int) < n then 22 else 0
def shiftM (n : Int) (args : List ByteArray) : List ByteArray := if n < 0 ∨ (args.length : Int) < n then args else args.drop n.toNat
end Go.Proofs.Ytcojeojmodjmdaa
