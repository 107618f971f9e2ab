/- Contract of vars.Vars.Environ. Conditions: the contract's own premises. -/
import Derived.Test.YtcojeojmodjmdaaVarsIter
import Derived.Maps.OwnIn
namespace Go.Proofs.Ytcojeojmodjmdaa
open Go.RowKit Go.Shelf Go.Maps

attribute [local go_sem] Oper.semAt_some

theorem Try.info9 : (Try.prog.info? 9).map (fun i => (i.zero, i.size, i.bytes)) = some (some (.string ⟨#[]⟩), 1, 16) := by kernel_rfl
def eqS : ByteArray := ⟨#[61]⟩
/-- What is told of a variable. -/
def envX (p : List UInt8 × VR) : Option ByteArray := if (p.2.e && !p.2.u) = true then some ((⟨p.1.toArray⟩ ++ eqS) ++ p.2.value) else none
def envL (M : KA VR) : List ByteArray := M.filterMap envX
def strs (l : List ByteArray) : List Value := l.map .string
theorem all_any (b : Nat) (w : World) : Calls Try.prog 28 #[.pointer (some ⟨b, 0, none⟩)] w fun e w' =>
    e = .returned (.func (.func 38) #[] #[.pointer (some ⟨w.heap.size, 0, none⟩)]) ∧ w' = w.alloc (.cells #[.pointer (some ⟨b, 0, none⟩)] 24 (0, 0)) := by
  go_enter Try.func28, Try.ntmps28
  go_wp2
  go_ret
  exact ⟨rfl, rfl⟩
theorem envL_take (M : KA VR) (k : Nat) (hk : k < M.length) : envL (M.take (k + 1)) = envL (M.take k) ++ (envX M[k]).toList := by
  unfold envL
  rw [List.take_succ_eq_append_getElem hk, List.filterMap_append]
  cases h : envX M[k] <;> simp [h]
theorem envL_le (M : KA VR) : (envL M).length ≤ M.length := List.length_filterMap_le _ _
def EnvPost (w : World) (M : KA VR) (e : Ending) (w' : World) : Prop :=
  ∃ v, e = .returned v ∧ w'.ownsRow w.heap.size 9 1 v (envL M).length (strs (envL M)) ∧ Fr (fun _ => False) w w'
def eactx (b h : Nat) (x : List UInt8 × VR) (xb : Nat) : Act := { tmps := #[.pointer (some ⟨b, 0, none⟩), undef, .slice none 0 0, .pointer (some ⟨h, 0, none⟩), .pointer (some ⟨xb, 0, none⟩), .pointer (some ⟨b, 0, none⟩), .func (.func 38) #[] #[.pointer (some ⟨h + 1, 0, none⟩)], venc x.1 x.2,
  undef, undef, undef, undef, undef, undef, undef, undef, undef, undef, undef, undef, undef, undef, undef, undef, undef], defers := [] }
structure EnvI (w : World) (b : Nat) (M : KA VR) (s : Nat) (A : Nat → Prop) (W : World) : Prop where
  le : s ≤ M.length
  lo : ∀ k, k < w.heap.size + 4 → A k
  bl : ∃ v, W.heap[w.heap.size]? = some (.cells #[v] 22 (0, 0)) ∧ W.ownsRow (w.heap.size + 4) 9 1 v (envL (M.take s)).length (strs (envL (M.take s))) ∧ ∀ g, v.ownBlock = some g → A g
  bi : W.heap[w.heap.size + 1]? = some (.cells #[.pointer (some ⟨b, 0, none⟩)] 24 (0, 0))
  fr : Fr (fun _ => False) w W
theorem EnvI.frame {w W W' : World} {b : Nat} {M : KA VR} {s : Nat} {A : Nat → Prop} (h : EnvI w b M s A W) (hf : Fr (fun k => k = w.heap.size + 2 ∨ k = w.heap.size + 3 ∨ ¬ A k) W W') : EnvI w b M s A W' := by
  obtain ⟨v, h1, h2, h3⟩ := h.bl
  have hno : ∀ k, k ≠ w.heap.size + 2 → k ≠ w.heap.size + 3 → A k → ¬ (k = w.heap.size + 2 ∨ k = w.heap.size + 3 ∨ ¬ A k) := fun k h1 h2 h3 e => by
    rcases e with e | e | e
    · exact h1 e
    · exact h2 e
    · exact e h3
  exact ⟨h.le, h.lo, ⟨v, hf.get h1 (hno _ (by omega) (by omega) (h.lo _ (by omega))), own_frame h2 hf (fun g e => hno _ (by have := (h2.lt g e).1; omega) (by have := (h2.lt g e).1; omega) (h3 g e)), h3⟩,
    hf.get h.bi (hno _ (by omega) (by omega) (h.lo _ (by omega))), h.fr.trans' hf (fun i hi e => hno _ (by omega) (by omega) (h.lo _ (by omega)) e)⟩
set_option maxRecDepth 100000 in
set_option maxHeartbeats 4000000 in
theorem env_any (w : World) (b : Nat) (M : KA VR) (args : List ByteArray) (S : Nat → Prop) (h : VarsAt w b M args S) :
    Calls Try.prog 13 #[.pointer (some ⟨b, 0, none⟩)] w (EnvPost w M) := by
  obtain ⟨mb, av, hv⟩ := h
  obtain ⟨i0, hinf, hz0, hz1, hz2⟩ := info_parts Try.info9
  refine (callsIn_wide (n := 8)).1 ?_
  refine callsIn_of_wp_marks Try.func13 rfl trivial ?_ rfl
  simp only [Try.ntmps13, List.size_toArray, List.length_cons, List.length_nil, Nat.reduceAdd, Nat.reduceSub, Array.replicate_succ, Array.replicate_zero, List.push_toArray, List.append_toArray, List.nil_append, List.cons_append]
  gi_wp2_with (refine ⟨trivial, ?_⟩; gi_at_call 28; refine (callsIn_wide.2 (all_any _ _)).mono ?_; rintro e w' ⟨rfl, rfl⟩)
  have hbl := blk_alloc (blk_new w (.cells #[.slice none 0 0] 22 (0, 0))) (.cells #[.pointer (some ⟨b, 0, none⟩)] 24 (0, 0))
  have hbi := blk_new' (w.alloc (.cells #[.slice none 0 0] 22 (0, 0))) (.cells #[.pointer (some ⟨b, 0, none⟩)] 24 (0, 0)) (w.heap.size + 1) (by simp)
  have hz : ((w.alloc (.cells #[.slice none 0 0] 22 (0, 0))).alloc (.cells #[.pointer (some ⟨b, 0, none⟩)] 24 (0, 0))).heap.size = w.heap.size + 2 := by simp
  have hfw : Fr (fun _ => False) w ((w.alloc (.cells #[.slice none 0 0] 22 (0, 0))).alloc (.cells #[.pointer (some ⟨b, 0, none⟩)] 24 (0, 0))) := ((Fr.refl _ _).alloc _).alloc _
  generalize ((w.alloc (.cells #[.slice none 0 0] 22 (0, 0))).alloc (.cells #[.pointer (some ⟨b, 0, none⟩)] 24 (0, 0))) = w1 at *
  have hI0 : EnvI w b M 0 (fun k => k < w1.heap.size + 2) w1 := ⟨by omega, fun k hk => by omega, ⟨_, hbl, by simpa [envL, strs] using World.ownsRow_nil _ _ _ _, fun g e => by cases e⟩, hbi, hfw⟩
  have hM := hv.len
  clear hbl hbi hfw
  refine rf_law3 (α := List UInt8 × VR) (σ := Nat) 38 #[.pointer (some ⟨w.heap.size + 1, 0, none⟩)] rfl (enters_of Try.func38 (by kernel_rfl) rfl) venc2 (fun _ => rfl)
    (OStep id (fun s => s + 1) M) (OFin id M) 0 (EnvI w b M) (fun _ _ _ => False)
    (fun s A X Y h1 hf => h1.frame (by rw [hz] at hf; exact hf)) ?hImono (fun _ _ _ _ h _ => h) (fun _ _ _ _ h _ => h) hI0 ?hiter
    (fun x a' W' => ∃ xb : Nat, a' = eactx b w.heap.size x xb ∧ w1.heap.size + 2 ≤ xb ∧ W'.heap[xb]? = some (.cells #[.string ⟨x.1.toArray⟩, .string x.2.value, .bool x.2.e, .bool x.2.r, .bool x.2.u] 67 (0, 0))) ?hAx ?assign ?body ?done ?stop
  case hImono =>
    rintro s A A' X h1 hA
    obtain ⟨v, k1, k2, k3⟩ := h1.bl
    exact ⟨h1.le, fun k hk => hA _ (h1.lo k hk), ⟨v, k1, k2, fun g e => hA _ (k3 g e)⟩, h1.bi, h1.fr⟩
  case hiter =>
    intro l' J' Jx' W' hJI' hJf' hJxf' hJA' hY' h0'
    refine vall1_iter (8 - 1) (by omega) (w.heap.size + 1) b mb id (fun s => s + 1) (fun _ => rfl) M hM (EnvI w b M) ?_ 0 rfl l' J' Jx' W' hJI' hJf' hJxf' hJA' hY' h0'
    intro s A X h1
    have hvX := hv.frame h1.fr (fun _ _ _ e => e)
    exact ⟨hvX.hm, by rw [blk_cell hvX.hb]; rfl, by rw [blk_cell h1.bi]; rfl⟩
  case hAx =>
    rintro x a' X Y ⟨xb, h1, h2, h5⟩ hf
    exact ⟨xb, h1, h2, hf.get h5 (by omega)⟩
  case assign =>
    rintro l' s A x s' X K _ _ hsz hK
    obtain ⟨nm, vl, e, r, u⟩ := x
    have hK := hide hK
    simp only [venc2, venc]
    gi_wp2
    exact hK.out _ _ ((Fr.refl _ _).alloc _) ⟨X.heap.size, rfl, hsz, blk_new _ _⟩
  case body =>
    rintro l' s A x s' a' X ⟨hlt, hxx, rfl⟩ hI ⟨xb, rfl, g11, g12⟩ hsz hA0 hA1
    simp only [id] at hlt hxx
    obtain ⟨nm, vl, e, r, u⟩ := x
    obtain ⟨le, lo, ⟨v, k1, k2, k3⟩, bi, fr⟩ := hI
    have hsz2 := hv.sz M[s] (List.getElem_mem hlt)
    rw [← hxx] at hsz2
    have hnl : (⟨nm.toArray⟩ : ByteArray).size ≤ 140737488355328 := by simpa [ByteArray.size] using hsz2.1
    have hvl : vl.size ≤ 65536 := hsz2.2
    have htk := envL_take M s hlt
    rw [← hxx] at htk
    have Htk := hide htk
    have hle := envL_le (M.take s)
    have hle2 : (M.take s).length ≤ 64 := by simp; omega
    obtain ⟨va, vc, rfl⟩ := own_form k2
    have c1 : X.cell? ⟨w.heap.size, 0, none⟩ = some (.slice va (envL (M.take s)).length vc) := by rw [blk_cell k1]; rfl
    have z1 := blk_frozen k1
    have c2 : X.cell? ⟨xb, 0, none⟩ = some (.string ⟨nm.toArray⟩) := by rw [blk_cell g12]; rfl
    have c3 : X.cell? ⟨xb, 1, none⟩ = some (.string vl) := by rw [blk_cell g12]; rfl
    have c4 : X.cell? ⟨xb, 2, none⟩ = some (.bool e) := by rw [blk_cell g12]; rfl
    have c6 : X.cell? ⟨xb, 4, none⟩ = some (.bool u) := by rw [blk_cell g12]; rfl
    have hskip : (e && !u) = false → rfPost3 w1.heap.size A (EnvI w b M) (fun _ _ _ => False) (s + 1) X .normal ⟨#[], []⟩ X := fun h9 =>
      ⟨⟨rfl, rfl⟩, Fr.refl _ _, by omega, fun k hk => .inl (lo k hk), ⟨_, k1, by rw [Htk.out]; simp only [envX, h9]; simpa using k2, fun g e => .inl (k3 g e)⟩, bi, fr⟩
    have hskip := hide hskip
    clear htk hxx
    unfold eactx
    cases e with
    | false =>
      have hs := hide (hskip.out rfl)
      rw [hz] at hs
      gi_wp2
      exact hs.out
    | true =>
      cases u with
      | true =>
        have hs := hide (hskip.out rfl)
        rw [hz] at hs
        gi_wp2
        exact hs.out
      | false =>
        obtain ⟨q2, hq2⟩ : ∃ q2, q2 = ((⟨nm.toArray⟩ : ByteArray) ++ eqS) ++ vl := ⟨_, rfl⟩
        have htk2 : envL (M.take (s + 1)) = envL (M.take s) ++ [q2] := by rw [Htk.out, hq2]; rfl
        obtain ⟨q, hq⟩ : ∃ q : ByteArray, q = ⟨nm.toArray⟩ := ⟨_, rfl⟩
        rw [← hq] at hq2 c2 hnl
        obtain ⟨q1, hq1⟩ : ∃ q1, q1 = q ++ eqS := ⟨_, rfl⟩
        have hq1s : q1.size = q.size + 1 := by rw [hq1, ByteArray.size_append]; rfl
        have hcat1 : (Op.stringOp .add q ⟨#[61]⟩).run Try.prog X = .ok (.string q1) X := by
          rw [hq1]; exact run_string_add_sum X q eqS (by have : eqS.size = 1 := rfl; omega)
        have hcat2 : (Op.stringOp .add q1 vl).run Try.prog X = .ok (.string q2) X := by
          rw [hq2, ← hq1]; exact run_string_add_sum X q1 vl (by omega)
        have Htk2 := hide htk2
        clear htk2 hq hq1 hq2 hq1s Htk hskip g12
        gi_wp2_with (gi_at_builtin; refine wpListIn_append_own_at _ rfl _ _ 22 rfl (w.heap.size + 4) 9 i0 (.string ⟨#[]⟩) 1 16 Try.underlying22 hinf hz0 hz1 hz2 rfl (by decide) _ _ _ rfl (k2.alloc _) ⟨X.heap.size, 0, none⟩ 1 1 [.string q2] rfl rfl ?c1 ?c2 ?c3 ?c4 ?c5 ?_)
        case c2 => first | rfl | (intro u hu; simp at hu; subst hu; rfl)
        case c3 => unfold maxLen; omega
        case c4 => omega
        case c5 => first | omega | (simp only [World.size_alloc]; omega)
        intro v' w3 hown' hgrow _ hat
        obtain ⟨va', vc', rfl⟩ := own_form hown'
        have hf1 : Fr (fun q => (Value.slice va (envL (M.take s)).length vc).ownBlock = some q) X w3 := ((Fr.refl _ _).alloc _).trans (Fr.of_grown hgrow)
        have hvb : ∀ q, (Value.slice va (envL (M.take s)).length vc).ownBlock = some q → w.heap.size + 4 ≤ q := fun q e => (k2.lt _ e).1
        have hs3 := hf1.size
        have k13 := hf1.get k1 (fun e => by have := hvb _ e; omega)
        have bi3 := hf1.get bi (fun e => by have := hvb _ e; omega)
        have hcell : w3.cell? ⟨w.heap.size, 0, none⟩ = some (.slice va (envL (M.take s)).length vc) := by rw [blk_cell k13]; rfl
        have hfz := blk_frozen k13
        have hset := frSet w3 w.heap.size 0 (.slice va' ((envL (M.take s)).length + 1) vc')
        have hfin := hide (show rfPost3 w1.heap.size A (EnvI w b M) (fun _ _ _ => False) (s + 1) X .normal ⟨#[], []⟩ (w3.setCell ⟨w.heap.size, 0, none⟩ (.slice va' ((envL (M.take s)).length + 1) vc')) from by
          have hall : Fr A X (w3.setCell ⟨w.heap.size, 0, none⟩ (.slice va' ((envL (M.take s)).length + 1) vc')) := (hf1.mono (fun k _ e => k3 k e)).trans (hset.mono (fun k _ e => e ▸ lo _ (by omega)))
          have hg2 : ∀ g, (Value.slice va' ((envL (M.take s)).length + 1) vc').ownBlock = some g → A g ∨ (X.heap.size ≤ g ∧ g < w3.heap.size) := fun g e => by
            rcases hat with hat | hat
            · rw [hat] at e; exact .inl (k3 g e)
            · rw [hat] at e
              simp only [Option.some.injEq] at e
              exact .inr ⟨by omega, (hown'.lt _ (by rw [hat, ← e])).2⟩
          have hb2 := blk_set k13 0 (.slice va' ((envL (M.take s)).length + 1) vc')
          refine ⟨⟨?_, ?_⟩, hall, by omega, fun k hk => .inl (lo k hk), ⟨_, hb2, ?_, fun g e => by simpa using hg2 g e⟩, blk_set_other bi3 _ _ (by simp), ?_⟩
          · rw [Below.heap_setCell _ _ _ _ (by simp; omega)]; exact hf1.block _ (by omega) (fun e => by have := hvb _ e; omega)
          · rw [Below.heap_setCell _ _ _ _ (by simp; omega)]; exact hf1.block _ (by omega) (fun e => by have := hvb _ e; omega)
          · rw [Htk2.out]
            simp only [strs, List.map_append, List.map_cons, List.map_nil, List.length_append, List.length_cons, List.length_nil, Nat.zero_add]
            exact own_frame hown' hset (fun g e e2 => by have := (hown'.lt _ e).1; omega)
          · exact (fr.trans' hf1 (fun i hi e => by have := hvb _ e; omega)).trans' hset (fun i hi e => by omega))
        rw [hz] at hfin
        clear hf1 hset hown' hgrow k13 bi3 c1 z1 c2 c3 c4 c6 hcat1 hcat2
        gi_wp2
        exact hfin.out
  case done =>
    rintro s A X hfin hI hK
    obtain ⟨v, k1, k2, k3⟩ := hI.bl
    have hc : X.cell? ⟨w.heap.size, 0, none⟩ = some v := by rw [blk_cell k1]; rfl
    have hput : Fr (fun k => k = w1.heap.size) X (X.putObj w1.heap.size (.deferred none)) := fr_putObj _ rfl
    have hM2 : M.take s = M := by unfold OFin at hfin; simp only [id] at hfin; rw [hfin]; exact List.take_length
    rw [hM2] at k2
    have hfr := hI.fr
    clear hM2 hfin hI
    gi_wp2
    refine ⟨by simp, .inl ⟨_, _, rfl, run_takeDeferred hK, ?_⟩⟩
    have h9 : Fr (fun _ => False) w (X.putObj w1.heap.size (.deferred none)) := hfr.trans' hput (fun i hi e => by omega)
    exact ⟨_, results_tmp rfl _ _ _, v, rfl, own_base (own_frame k2 hput (fun g e e2 => by have := (k2.lt g e).1; omega)) (fun g e => by have := (k2.lt g e).1; omega), h9⟩
  case stop =>
    rintro c A W h9 _
    exact h9.elim
end Go.Proofs.Ytcojeojmodjmdaa
