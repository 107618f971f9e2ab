/- Regions that draw their order: first operations that look at no world, then operations that only read, then a tail in a forced order: one walk serves every order. Conditions: closed facts on the region, by the kernel. -/
import Derived.Test.YtlhmmiolnbgloaaGreatDoorSizedLift
namespace Go.Proofs.YtlhmmiolnbgloaaGreatDoor
open Go.RowKit

section
variable {P : Program} {ops : Array Oper} {w : World}

/-- The operations at these places, in this order. -/
def pickOps (ops : Array Oper) (is : List Nat) : List Oper := is.filterMap fun i => ops[i]?

/-- Those that must have come up before number t0: t0 itself, and whatever one of them waits for (looked for among the d numbers below t0). -/
def mustOf (ops : Array Oper) (t0 : Nat) : Nat → List Nat
  | 0 => [t0]
  | d + 1 =>
    let L := mustOf ops t0 d
    if d < t0 ∧ L.any (fun j => Region.waitsFor .any ops j (t0 - (d + 1))) then (t0 - (d + 1)) :: L else L

theorem mustOf_spec (t0 : Nat) : ∀ d i, i ∈ mustOf ops t0 d → i ≤ t0 ∧ (i ≠ t0 → ∃ j ∈ mustOf ops t0 d, i < j ∧ Region.waitsFor .any ops j i = true)
  | 0, i, h => by
    simp only [mustOf, List.mem_singleton] at h
    subst h
    exact ⟨Nat.le_refl _, fun h => absurd rfl h⟩
  | d + 1, i, h => by
    have hge : ∀ (d j : Nat), j ∈ mustOf ops t0 d → t0 - d ≤ j := by
      intro d
      induction d with
      | zero => intro j hj; simp only [mustOf, List.mem_singleton] at hj; omega
      | succ d ih =>
        intro j hj
        simp only [mustOf] at hj
        split at hj
        · rcases List.mem_cons.1 hj with rfl | hj
          · omega
          · have := ih j hj; omega
        · have := ih j hj; omega
    simp only [mustOf] at h ⊢
    split at h
    · rename_i hc
      rw [if_pos hc]
      rcases List.mem_cons.1 h with rfl | h
      · refine ⟨by omega, fun _ => ?_⟩
        obtain ⟨j, hj, hw⟩ := List.any_eq_true.1 hc.2
        exact ⟨j, List.mem_cons_of_mem _ hj, by have := hge d j hj; omega, hw⟩
      · obtain ⟨h1, h2⟩ := mustOf_spec t0 d i h
        exact ⟨h1, fun hne => let ⟨j, hj, h3⟩ := h2 hne; ⟨j, List.mem_cons_of_mem _ hj, h3⟩⟩
    · rename_i hc
      rw [if_neg hc]
      exact mustOf_spec t0 d i h

/-- In this order each may come up, and none that could come before it touches its temporaries. -/
def lexList (ops : Array Oper) : List Nat → Array Bool → Bool
  | [], _ => true
  | i :: is, listed => decide (i < ops.size) && (Region.ready .any ops listed).contains i && Region.free .any ops listed i && lexList ops is (listed.setIfInBounds i true)
def listAll : List Nat → Array Bool → Array Bool
  | [], listed => listed
  | i :: is, listed => listAll is (listed.setIfInBounds i true)

theorem anyFirst {n i : Nat} {oi : Oper} {v : Value} {L : Array Bool → Act → Prop} {Inv : Array Bool → Prop} (hi : ops[i]? = some oi) (hs : Region.noSelect ops = true)
    (hin : i < n) (hdone : ∀ listed a, L listed a → ∀ j ∈ Region.ready .any ops listed, n ≤ j)
    (hInv : ∀ listed j, Inv listed → j ∈ Region.ready .any ops listed → j < n → Inv (listed.setIfInBounds j true))
    (hnt : ∀ listed, Inv listed → listed.getD i true = false → ∀ t, n ≤ t → t ∉ Region.ready .any ops listed) :
    ∀ (f : Nat) (listed : Array Bool) (a : Act), Inv listed →
      (∀ j oj, ops[j]? = some oj → j ≠ i → listed.getD j true = false → (∀ e ∈ oj.after, Region.binds .any e = true → e.on ≠ i) → oi.apart ops oj = true) →
      i ∈ Region.ready .any ops listed → YieldsAt P ops w oi v a →
      wpAnyL P .any ops w n L f (listed.setIfInBounds i true) (a.put oi.dst v) → wpAnyL P .any ops w n L (f + 1) listed a := by
  intro f
  induction f with
  | zero =>
    intro listed a inv _ hr hy H
    have hun := (mem_ready.1 hr).1
    refine ⟨List.ne_nil_of_mem hr, fun j hj => ?_⟩
    have hjn : j < n := Nat.lt_of_not_le fun h => hnt listed inv hun j h hj
    by_cases hji : j = i
    · subst hji; exact ⟨hjn, hy.stOp hi H⟩
    · exact absurd (hdone _ _ H j (ready_mono hj hji)) (by omega)
  | succ f ih =>
    intro listed a inv hfree hr hy H
    have hun := (mem_ready.1 hr).1
    refine ⟨List.ne_nil_of_mem hr, fun j hj => ?_⟩
    have hjn : j < n := Nat.lt_of_not_le fun h => hnt listed inv hun j h hj
    refine ⟨hjn, ?_⟩
    by_cases hji : j = i
    · subst hji; exact hy.stOp hi H
    obtain ⟨hjun, oj, hoj, hall⟩ := mem_ready.1 hj
    have hno : ∀ e ∈ oj.after, Region.binds .any e = true → e.on ≠ i := fun e he hb heq => by
      have h1 := hall e he hb
      rw [heq, getD_both hun] at h1
      cases h1
    have h2 := stOp_put hoj (hfree j oj hoj hji hjun hno) (fun cs b => Region.noSelect_spec hs i oi cs b hi) (fun cs b => Region.noSelect_spec hs j oj cs b hoj) hy (H.2 j (ready_mono hj hji)).2
    refine stOp_mono (fun a' h3 => ih (listed.setIfInBounds j true) a' (hInv _ _ inv hj hjn) ?_ (ready_mono hr (Ne.symm hji)) h3.1 ?_) h2
    · intro k ok hk hki hun' hno'
      refine hfree k ok hk hki ?_ hno'
      by_cases hjk : j = k
      · subst hjk; exact hjun
      · rw [getD_set_ne true hjk] at hun'; exact hun'
    · rw [Array.setIfInBounds_comm _ _ hji]
      exact h3.2

/-- What holds of the list of what has come up while reads are still due. -/
structure MixInv (ops : Array Oper) (n : Nat) (listed : Array Bool) : Prop where
  size : listed.size = ops.size
  closed : ∀ j oj, ops[j]? = some oj → listed.getD j false = true → ∀ e ∈ oj.after, Region.binds .any e = true → listed.getD e.on false = true
  tail : ∀ t, n ≤ t → t < ops.size → listed.getD t true = false

theorem MixInv.set {n i : Nat} {listed : Array Bool} (inv : MixInv ops n listed) (hi : i ∈ Region.ready .any ops listed) (hin : i < n) : MixInv ops n (listed.setIfInBounds i true) := by
  obtain ⟨_, oi, hoi, hall⟩ := mem_ready.1 hi
  refine ⟨by simp [inv.size], fun j oj hj hl e he hb => ?_, fun t ht ht' => by rw [getD_set_ne true (by omega)]; exact inv.tail t ht ht'⟩
  by_cases hij : i = j
  · subst hij
    obtain rfl : oj = oi := Option.some.inj (hj.symm.trans hoi)
    exact getD_set_true (hall e he hb)
  · rw [getD_set_ne false hij] at hl
    exact getD_set_true (inv.closed j oj hj hl e he hb)

/-- While something that must come before n has not come up, nothing from n on may. -/
theorem MixInv.waits {n d : Nat} {listed : Array Bool} (inv : MixInv ops n listed) (hc : Region.chainB .any ops n = true) (hn : n < ops.size) :
    ∀ (m i : Nat), n - i = m → i ∈ mustOf ops n d → i < n → listed.getD i true = false → ∀ t, n ≤ t → t ∉ Region.ready .any ops listed := by
  intro m
  induction m using Nat.strongRecOn with
  | _ m ih =>
    intro i hm hi hin hun t ht hr
    obtain ⟨_, ot, hot, hall⟩ := mem_ready.1 hr
    have htlt : t < ops.size := (Array.getElem?_eq_some_iff.1 hot).1
    by_cases htn : t = n
    · subst htn
      obtain ⟨j, hj, hij, hw⟩ := (mustOf_spec t d i hi).2 (by omega)
      have hjt := (mustOf_spec t d j hj).1
      obtain ⟨oj, hoj, e, he, hb, hon⟩ := Region.waitsFor_spec hw
      by_cases hjt' : j = t
      · subst hjt'
        obtain rfl : oj = ot := Option.some.inj (hoj.symm.trans hot)
        have h2 := hall e he hb
        rw [hon, getD_both hun] at h2
        cases h2
      · cases hl : listed.getD j false with
        | true =>
          have h2 := inv.closed j oj hoj hl e he hb
          rw [hon, getD_both hun] at h2
          cases h2
        | false =>
          have hjs : j < listed.size := by rw [inv.size]; omega
          exact ih (t - j) (by omega) j rfl hj (by omega) (getD_in hjs hl) t (Nat.le_refl _) hr
    · have h1 := List.all_eq_true.1 hc t (List.mem_range.2 htlt)
      simp only [Bool.or_eq_true, decide_eq_true_eq] at h1
      rcases h1 with h1 | h1
      · omega
      · obtain ⟨o', ho', e, he, hb, hon⟩ := Region.waitsFor_spec h1
        obtain rfl : o' = ot := Option.some.inj (ho'.symm.trans hot)
        have h2 := hall e he hb
        rw [hon, getD_both (inv.tail (t - 1) (by omega) (by omega))] at h2
        cases h2

theorem lexList_inv {n : Nat} : ∀ (is : List Nat) (listed : Array Bool), MixInv ops n listed → lexList ops is listed = true → (∀ i ∈ is, i < n) → MixInv ops n (listAll is listed)
  | [], _, inv, _, _ => inv
  | i :: is, listed, inv, h, hn => by
    simp only [lexList, Bool.and_eq_true] at h
    exact lexList_inv is _ (inv.set (by simpa using h.1.1.2) (hn i (by simp))) h.2 (fun j hj => hn j (List.mem_cons_of_mem _ hj))

theorem any_reads {n d g : Nat} {Lq : Act → Prop} (hs : Region.noSelect ops = true) (hc : Region.chainB .any ops n = true) (hn : n < ops.size) :
    ∀ (is : List Nat) (listed : Array Bool) (a : Act), MixInv ops n listed → (∀ i ∈ is, i < n ∧ i ∈ mustOf ops n d) → lexList ops is listed = true → Region.seqB .any ops g n (listAll is listed) = true →
    wpStill P ops w Lq (pickOps ops is) a → wpAnyL P .any ops w n (fun listed' a' => Region.seqB .any ops g n listed' = true ∧ Lq a') is.length listed a
  | [], listed, a, _, _, _, hq, h => ⟨hq, h⟩
  | i :: is, listed, a, inv, hm, hl, hq, h => by
    simp only [lexList, Bool.and_eq_true, decide_eq_true_eq] at hl
    obtain ⟨⟨⟨hlt, hr⟩, hf⟩, hl'⟩ := hl
    obtain ⟨o, ho⟩ : ∃ o, ops[i]? = some o := ⟨_, Array.getElem?_eq_getElem hlt⟩
    have hr' : i ∈ Region.ready .any ops listed := by simpa using hr
    have hin := (hm i (by simp)).1
    have hpk : pickOps ops (i :: is) = o :: pickOps ops is := by simp [pickOps, ho]
    rw [hpk] at h
    have hst : stOp P ops w i (wpStill P ops w Lq (pickOps ops is)) a := by unfold stOp; simp only [ho]; exact h
    obtain ⟨v, hy, hK⟩ := yieldsAt_of_stOp ho hst
    refine anyFirst (Inv := MixInv ops n) ho hs hin (fun listed' a' hL => seqB_ready hL.1) (fun _ _ h1 h2 h3 => h1.set h2 h3)
      (fun _ h1 h2 => h1.waits hc hn _ i rfl (hm i (by simp)).2 hin h2) is.length listed a inv (Region.free_spec ho hf) hr' hy ?_
    exact any_reads hs hc hn is _ _ (inv.set hr' hin) (fun j hj => hm j (List.mem_cons_of_mem _ hj)) hl' hq hK

/-- Operations that hand back a value, and nothing else. -/
def valueOp (o : Oper) : Bool := match o.op with
  | .move _ | .assign _ | .binOp .. | .unOp .. | .nilCheck .. | .fieldAddr .. | .field .. | .indexAddr .. | .index .. | .extract .. | .load .. | .convert .. | .slice .. | .build .. => true
  | _ => false
theorem run_valued {s : Sem Value} {n : Next} {w' : World} (h : (do pure (Next.value (← s)) : Sem Next).run P w = .ok n w') : ∃ v, n = .value v := by
  simp only [Sem.run_bind, Sem.run_pure] at h
  cases hr : s.run P w with
  | ok v w1 => rw [hr] at h; simp only [Result.andThen] at h; injection h with h1 h2; exact ⟨v, h1.symm⟩
  | halt x w1 => rw [hr] at h; simp only [Result.andThen] at h; cases h
/-- A run that can only panic or hand back a value. -/
def Valued (P : Program) (s : Sem Next) : Prop := ∀ w n w', s.run P w = .ok n w' → ∃ v, n = .value v
theorem valued_pure (v : Value) : Valued P (pure (.value v)) := by
  intro w n w' h
  simp only [Sem.run_pure] at h
  injection h with h1 h2
  exact ⟨v, h1.symm⟩
theorem valued_bind {α : Type} {s : Sem α} {f : α → Sem Next} (h : ∀ x, Valued P (f x)) : Valued P (s >>= f) := by
  intro w n w' hr
  rw [Sem.run_bind] at hr
  cases hs : s.run P w with
  | ok v w1 => rw [hs] at hr; simp only [Result.andThen] at hr; exact h v w1 n w' hr
  | halt x w1 => rw [hs] at hr; simp only [Result.andThen] at hr; cases hr
theorem valued_panic : Valued P (runtimePanic .nilDeref) := by
  intro w n w' hr
  simp [runtimePanic, go_sem] at hr
theorem valueOp_value {o : Oper} (hb : valueOp o = true) {ρ : Operand → Value} {n : Next} {w' : World} (h : (execOp ρ o).run P w = .ok n w') : ∃ v, n = .value v := by
  obtain ⟨dst, op, ty, pos, aft, grd⟩ := o
  cases op <;> first
    | (simp [valueOp] at hb; done)
    | (unfold execOp at h; dsimp only at h; exact run_valued h)
    | (unfold execOp at h; dsimp only at h; simp only [Sem.run_pure] at h; injection h with h1 h2; exact ⟨_, h1.symm⟩)
    | (unfold execOp at h; dsimp only at h; first | exact (by
        refine (show Valued P _ from ?_) _ _ _ h
        split
        · exact valued_panic
        · exact valued_panic
        · exact valued_panic
        · split
          · exact valued_panic
          · refine valued_bind fun _ => valued_bind fun _ => ?_
            split
            · exact valued_bind fun _ => valued_pure _
            · exact valued_pure _
          · exact valued_pure _
        · exact valued_pure _))
/-- The blind ones first. -/
theorem any_blind {Q : Exit → Act → World → Prop} (hs : Region.noSelect ops = true) (hQ : ∀ c a d v w, Q (.panic c) (Act.put a d v) w → Q (.panic c) a w) {K : Act → Prop} {g : Nat} :
    ∀ (is : List Nat) (listed : Array Bool) (a : Act), lexList ops is listed = true → (∀ a', K a' → wpAny P .any ops Q g (listAll is listed) a' w) →
    wpQuiet P ops (fun _ => True) K (pickOps ops is) a → (∀ i ∈ is, ∀ o, ops[i]? = some o → valueOp o = true) → wpAny P .any ops Q (is.length + g) listed a w
  | [], listed, a, _, hk, h, _ => by simpa [listAll] using hk a h
  | i :: is, listed, a, hl, hk, h, hcall => by
    simp only [lexList, Bool.and_eq_true, decide_eq_true_eq] at hl
    obtain ⟨⟨⟨hlt, hr⟩, hf⟩, hl'⟩ := hl
    obtain ⟨o, ho⟩ : ∃ o, ops[i]? = some o := ⟨_, Array.getElem?_eq_getElem hlt⟩
    have hpk : pickOps ops (i :: is) = o :: pickOps ops is := by simp [pickOps, ho]
    rw [hpk] at h
    unfold wpQuiet at h
    rw [List.length_cons, show is.length + 1 + g = (is.length + g) + 1 by omega]
    by_cases hw : Region.wanted o (yielded ops a.tmps) = true
    · rw [if_pos hw] at h
      obtain ⟨v, h1, h2⟩ := h
      have hv : ∀ w, (execOp a.eval o).run P w = .ok (.value v) w := fun w0 => by
        have h3 := h1 w0 trivial
        unfold Oper.quietAt at h3
        cases hrun : (execOp a.eval o).run P w0 with
        | ok nx w' =>
          obtain ⟨u, rfl⟩ := valueOp_value (hcall i (by simp) o ho) hrun
          rw [hrun] at h3
          simp only [Oper.quietUpon] at h3
          rw [h3.1, h3.2]
        | halt x w' => rw [hrun] at h3; simp only [Oper.quietUpon] at h3
      exact wpAny_take ho hs hf (by simpa using hr) (fun c a w => hQ c a _ _ w) (.inl ⟨hw, hv⟩) (any_blind hs hQ is _ _ hl' hk h2 (fun j hj => hcall j (List.mem_cons_of_mem _ hj)))
    · rw [if_neg hw] at h
      exact wpAny_take ho hs hf (by simpa using hr) (fun c a w => hQ c a _ _ w) (.inr ⟨by simpa using hw, rfl⟩) (any_blind hs hQ is _ _ hl' hk h (fun j hj => hcall j (List.mem_cons_of_mem _ hj)))

/-- The closed facts on a region: bl: the places of what looks at no world; rd: of what only reads; from n on: the tail. -/
def mixB (ops : Array Oper) (bl rd : List Nat) (n : Nat) : Bool :=
  Region.noSelect ops && decide (n < ops.size) && Region.chainB .any ops n && decide (bl.length + rd.length = n) && bl.all (fun i => decide (i < n) && (ops[i]?.map valueOp).getD false) && lexList ops bl (Array.replicate ops.size false) &&
  rd.all (fun i => decide (i < n) && (mustOf ops n n).contains i) && lexList ops rd (listAll bl (Array.replicate ops.size false)) && Region.seqB .any ops (ops.size - n) n (listAll rd (listAll bl (Array.replicate ops.size false)))

theorem pickOps_map (l : List Oper) : ∀ (is : List Nat), (∀ i ∈ is, i < l.length) → pickOps l.toArray is = is.map (fun i => l.getD i default)
  | [], _ => rfl
  | i :: is, h => by
    have h1 := h i (by simp)
    have h2 := pickOps_map l is (fun j hj => h j (List.mem_cons_of_mem _ hj))
    unfold pickOps at h2 ⊢
    rw [List.filterMap_cons, h2]
    simp [h1, List.getD_eq_getElem?_getD]

theorem any_mix {Q : Exit → Act → World → Prop} {a : Act} {l : List Oper} (bl rd : List Nat) (n : Nat) (hB : mixB l.toArray bl rd n = true)
    (hQ : ∀ c a d v w, Q (.panic c) (Act.put a d v) w → Q (.panic c) a w)
    (h0 : wpQuiet P l.toArray (fun _ => True) (fun a1 => wpQuiet P l.toArray (fun w' => w' = w.drew) (fun a2 => wpList P l.toArray Q (l.drop n) a2 w.drew) (rd.map (fun i => l.getD i default)) a1) (bl.map (fun i => l.getD i default)) a) :
    wpAny P .any l.toArray Q l.toArray.size (Array.replicate l.toArray.size false) a w.drew := by
  simp only [mixB, Bool.and_eq_true, decide_eq_true_eq, List.all_eq_true] at hB
  obtain ⟨⟨⟨⟨⟨⟨⟨⟨hs, hn⟩, hc⟩, hlen⟩, hbl⟩, hl1⟩, hrd⟩, hl2⟩, hq⟩ := hB
  have hn2 : n < l.length := by simpa using hn
  have h := h0
  rw [← pickOps_map l bl (fun i hi => by have := (hbl i hi).1; omega), ← pickOps_map l rd (fun i hi => by have := (hrd i hi).1; omega)] at h
  have inv0 : MixInv l.toArray n (Array.replicate l.toArray.size false) :=
    ⟨by simp, fun j oj _ hl => (by rw [getD_replicate_false] at hl; cases hl), fun t _ ht => getD_in (by simpa using ht) (getD_replicate_false _ _)⟩
  have inv1 := lexList_inv bl _ inv0 hl1 (fun i hi => (hbl i hi).1)
  have hsz : l.toArray.size = bl.length + (rd.length + (l.drop n).length) := by simp at hn ⊢; omega
  have hg : l.toArray.size - n = (l.drop n).length := by simp
  have key : wpAny P .any l.toArray Q (bl.length + (rd.length + (l.drop n).length)) (Array.replicate l.toArray.size false) a w.drew := by
    refine any_blind hs hQ bl _ a hl1 ?_ h (fun i hi o ho => by have := (hbl i hi).2; rw [ho] at this; simpa using this)
    intro a1 h1
    refine wpAny_of_head (n := n) (L := fun listed' a' => Region.seqB .any l.toArray (l.drop n).length n listed' = true ∧ wpList P l.toArray Q (l.drop n) a' w.drew) ?_ rd.length _ _ ?_
    · intro listed a' hL
      exact wpAny_of_seq (l.drop n) n listed a' w.drew (fun j => by simp) hL.1 hL.2
    · exact any_reads hs hc hn rd _ a1 inv1 (fun i hi => by have := hrd i hi; exact ⟨this.1, by simpa using this.2⟩) hl2 (by rw [← hg]; exact hq) (still_of_quiet _ _ h1)
  rw [← hsz] at key
  exact key

theorem region_mix {id : Nat} {Q : Exit → Act → World → Prop} {a : Act} {l : List Oper} (bl rd : List Nat) (n : Nat) (hm : P.follows .mixedOrders = true) (hB : mixB l.toArray bl rd n = true)
    (hQ : ∀ c a d v w, Q (.panic c) (Act.put a d v) w → Q (.panic c) a w)
    (h0 : wpQuiet P l.toArray (fun _ => True) (fun a1 => wpQuiet P l.toArray (fun w' => w' = w.drew) (fun a2 => wpList P l.toArray Q (l.drop n) a2 w.drew) (rd.map (fun i => l.getD i default)) a1) (bl.map (fun i => l.getD i default)) a) :
    (Code.region id l.toArray true).wp P Q a w :=
  wp_region_any hm (any_mix bl rd n hB hQ h0)
end
end Go.Proofs.YtlhmmiolnbgloaaGreatDoor
