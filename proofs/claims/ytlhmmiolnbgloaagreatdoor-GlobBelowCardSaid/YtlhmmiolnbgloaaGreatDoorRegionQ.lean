/- files.FS.start: where a path begins, and its pieces. Conditions: the contract's own premises. -/
import Derived.Test.YtlhmmiolnbgloaaGreatDoorFilesB
import Derived.Test.YtlhmmiolnbgloaaGreatDoorShelf
import Derived.Test.YtlhmmiolnbgloaaGreatDoorProg
import Derived.Test.YtlhmmiolnbgloaaGreatDoorRows
import Derived.Test.YtlhmmiolnbgloaaGreatDoorSizedLift
import Derived.Test.YtlhmmiolnbgloaaGreatDoorSizedLift
import Derived.ProofKit
import Derived.OpenShut
import Derived.ShutString
import Derived.ChangeOld
import Derived.Deep.Slices
import Derived.Deep.Fields
import Derived.ChangeSame
import Derived.SizedLaws
import Derived.SliceStrings
import Derived.HandedShaped
import Derived.LaidMore
import Derived.Lay
import Derived.Stop.Joined
import Derived.Shelf.Vars
import Derived.Test.YtlhmmiolnbgloaaGreatDoorStrs
import Derived.Deep.Quiet
namespace Go.Proofs.YtlhmmiolnbgloaaGreatDoor
open Go.RowKit

theorem split_eq : ∀ s : List UInt8, Lib.splitK [47] 0 (s.count 47) s = splitS s
  | [] => rfl
  | c :: r => by
    have ih := split_eq r
    by_cases hc : c = 47
    · subst hc
      rw [List.count_cons_self]
      unfold Lib.splitK
      have h0 : Lib.index ((47 : UInt8) :: r) [47] = 0 := by unfold Lib.index; rw [if_pos (by simp [List.isPrefixOf])]
      rw [h0, if_neg (by decide)]
      simp only [Int.toNat_zero, Nat.zero_add, List.take_zero, List.length_cons, List.length_nil, List.drop_succ_cons, List.drop_zero]
      rw [ih]
      show _ = (if (47 : UInt8) = slashB then _ else _)
      rw [if_pos (show (47 : UInt8) = slashB from rfl)]
    · have hcount : (c :: r).count 47 = r.count 47 := by rw [List.count_cons, if_neg (by simpa using hc)]; rfl
      rw [hcount]
      have hS : splitS (c :: r) = match splitS r with | [] => [[c]] | p :: q => (c :: p) :: q := by
        show (if c = slashB then _ else _) = _
        rw [if_neg (show ¬ c = slashB from hc)]
        rfl
      rw [hS, ← ih]
      have hidx : Lib.index (c :: r) [47] = if Lib.index r [47] == -1 then -1 else Lib.index r [47] + 1 := by
        rw [Lib.index, if_neg (by simp [List.isPrefixOf]; exact fun e => hc e.symm)]
      cases hk : r.count 47 with
      | zero => rfl
      | succ k =>
        unfold Lib.splitK
        rw [hidx]
        by_cases hm : (Lib.index r [47] == -1) = true
        · rw [if_pos hm, if_pos (by decide), if_pos hm]
        · have hge := Lib.index_ge r [47]
          have hne : ¬ Lib.index r [47] = -1 := by simpa using hm
          rw [if_neg hm, if_neg (by simp; omega), if_neg hm]
          have ht : (Lib.index r [47] + 1).toNat = (Lib.index r [47]).toNat + 1 := by omega
          rw [ht]
          simp only [List.length_cons, List.length_nil, Nat.zero_add, Nat.add_zero, List.take_succ_cons, List.drop_succ_cons]
def slashBA : ByteArray := ⟨#[47]⟩
theorem splitB_eq (s : ByteArray) : (Lib.splitB slashBA 0 (Lib.countB s slashBA) s).map (·.data.toList) = splitS s.data.toList := by
  rw [Lib.splitB_data]
  show Lib.splitK [47] 0 (Lib.count s.data.toList [47]) s.data.toList = _
  rw [Lib.count_one]
  exact split_eq _
theorem piece_len : ∀ (s : List UInt8), ∀ q ∈ splitS s, q.length ≤ s.length
  | [], q, h => by simp [splitS] at h; simp [h]
  | c :: r, q, h => by
    have ih := piece_len r
    by_cases hc : c = slashB
    · simp only [splitS, if_pos hc, List.mem_cons] at h
      rcases h with rfl | h
      · simp
      · have := ih q h; simp; omega
    · simp only [splitS, if_neg hc] at h
      cases hs : splitS r with
      | nil => rw [hs] at h; simp at h; simp [h]
      | cons p t =>
        rw [hs] at h ih
        simp only [List.mem_cons] at h
        rcases h with rfl | h
        · have := ih p (by simp); simp; omega
        · have := ih q (by simp [h]); simp; omega
theorem split_count : ∀ (s : List UInt8), (splitS s).length ≤ s.length + 1
  | [] => by simp [splitS]
  | c :: r => by
    have ih := split_count r
    by_cases hc : c = slashB
    · simp only [splitS, if_pos hc, List.length_cons]; omega
    · simp only [splitS, if_neg hc]
      cases hs : splitS r with
      | nil => simp
      | cons p t => rw [hs] at ih; simp at ih ⊢; omega
/-- The library's own variable holds some number. -/
def Ml (w : World) : Prop := ∃ m, w.cell? ⟨Tryz.laysSplit_ren.g 1, 0, none⟩ = some (.int .i64 m)
theorem Ml.frame {w w' : World} {T : Nat → Prop} (h : Ml w) (hf : Fr T w w') (hT : ¬ T (Tryz.laysSplit_ren.g 1)) : Ml w' := by
  obtain ⟨m, hm⟩ := h
  exact ⟨m, (World.cell?_of_block (a := ⟨Tryz.laysSplit_ren.g 1, 0, none⟩) (hf.block _ (World.block_lt_of_cell? _ _ hm) hT)).trans hm⟩
theorem start1_any (x : ByteArray) (W : World) : Calls Tryz.prog 68 #[.string x] W fun e w' => e = .returned (.bool x.data.toList.isEmpty) ∧ ∃ q, w' = W.drewN q := by
  by_cases h : x.data.toList = []
  · have h1 := ba_empty h
    rw [h]
    go_enter Tryz.func68, Tryz.ntmps68
    go_wp2
    go_ret
    exact ⟨rfl, 0, rfl⟩
  · have h1 := ba_nonempty h
    have h2 : x.data.toList.isEmpty = false := by simpa using h
    rw [h2]
    go_enter Tryz.func68, Tryz.ntmps68
    go_wp2
    go_ret
    exact ⟨rfl, 0, rfl⟩
theorem Tryz.infoS : (Tryz.prog.info? 9).map (fun i => (i.zero, i.size, i.bytes)) = some (some (.string ByteArray.empty), 1, 16) := by kernel_rfl
theorem split_any (s : ByteArray) (w : World) (hs : s.size ≤ 256) (hm : Ml w) : Calls Tryz.prog 67 #[.string s, .string ⟨#[47]⟩] w fun e w' =>
    e = .returned (.slice (some ⟨w.heap.size, 0, none⟩) (Lib.splitB slashBA 0 (Lib.countB s slashBA) s).length (Lib.splitB slashBA 0 (Lib.countB s slashBA) s).length) ∧ w' = w.alloc (.cells ((Lib.splitB slashBA 0 (Lib.countB s slashBA) s).map Value.string).toArray 9 (0, 0)) := by
  obtain ⟨m, hm⟩ := hm
  have h := Any.strings_Split Tryz.laysSplit (by kernel_rfl) s slashBA m w (by omega) hm (by decide)
  have hl := Lib.splitB_all slashBA (by decide) 0 _ s rfl
  rw [← hl] at h
  exact h
theorem fr_putRow {α : Type} [Inhabited α] (enc : α → Value) (w : World) (q blk off : Nat) (d : Array α) : Fr (fun k => k = blk) w (Sort.putRow enc (Sort.ahead w q) blk off d) := by
  refine ⟨rfl, rfl, rfl, ?_, fun i hi hne => ?_⟩
  · rw [Sort.size_putRow]; exact Nat.le_refl _
  · show (w.heap.modify blk _)[i]? = _
    rw [Array.getElem?_modify, if_neg (fun e => hne e.symm)]
/-- The pieces that aren't empty. -/
theorem del_any (w : World) (blk : Nat) (l : List ByteArray) (hb : w.heap[blk]? = some (.cells (l.map Value.string).toArray 9 (0, 0))) (hl : l.length ≤ 1000) :
    Calls Tryz.prog 66 #[.slice (some ⟨blk, 0, none⟩) l.length l.length, .func (.func 68) #[] #[]] w fun e w' =>
      ∃ c, e = .returned (.slice (some ⟨blk, 0, none⟩) (l.filter fun x => !x.data.toList.isEmpty).length c) ∧ ArgsV w' (fun k => k = blk) (.slice (some ⟨blk, 0, none⟩) (l.filter fun x => !x.data.toList.isEmpty).length c) (l.filter fun x => !x.data.toList.isEmpty) ∧ Fr (fun k => k = blk) w w' := by
  have eg : ∀ args w, (callFunc 68 args).run Tryz.prog w = .ok (.enter 68 args) w := enters_of Tryz.func68 (by kernel_rfl) rfl
  have hH : Sort.Holds Value.string w blk 0 l.toArray := fun j hj => by
    have hj' : j < l.length := by simpa using hj
    refine ⟨?_, ?_⟩
    · rw [blk_cell hb]
      simp [hj', getElem!_pos]
    · exact blk_frozen hb _
  have h := AnyE.slices_DeleteFunc Tryz.laysDel Value.string (fun _ => rfl) (fun x : ByteArray => x.data.toList.isEmpty) 68 #[] eg ⟨#[]⟩ (fun w => by kernel_rfl) blk 0 l.length l.toArray w
    (fun W x _ => start1_any x W) (fun n os dk x _ => start1_any x _) hH (by simp; omega) (by simp)
  rw [show l.toArray.size = l.length by simp] at h
  refine Calls.mono h ?_
  rintro e w' ⟨rfl, q, rfl⟩
  have hle := List.length_filter_le (fun x : ByteArray => !x.data.toList.isEmpty) l
  show ∃ c, Ending.returned (.slice (some ⟨blk, 0, none⟩) (l.filter fun x => !x.data.toList.isEmpty).length l.length) = _ ∧ ArgsV (Sort.putRow Value.string (Sort.ahead w q) blk 0 ((l.filter fun x => !x.data.toList.isEmpty) ++ List.replicate (l.length - (l.filter fun x => !x.data.toList.isEmpty).length) (⟨#[]⟩ : ByteArray)).toArray) _ _ _ ∧ Fr _ _ (Sort.putRow Value.string (Sort.ahead w q) blk 0 ((l.filter fun x => !x.data.toList.isEmpty) ++ List.replicate (l.length - (l.filter fun x => !x.data.toList.isEmpty).length) (⟨#[]⟩ : ByteArray)).toArray)
  generalize (l.filter fun x => !x.data.toList.isEmpty) = r at *
  have hH2 := Sort.holds_putRow Value.string (Sort.ahead w q) blk 0 l.toArray (r ++ List.replicate (l.length - r.length) (⟨#[]⟩ : ByteArray)).toArray
    (Sort.holds_ahead Value.string w q blk 0 l.toArray hH) (by simp; omega)
  refine ⟨l.length, rfl, ⟨some ⟨blk, 0, none⟩, l.length, rfl, hle, (fun e => nomatch e), .inr ⟨blk, 0, rfl, rfl, ?_, fun k hk => ?_⟩⟩, fr_putRow _ _ _ _ _ _⟩
  · rw [Sort.size_putRow]; exact blk_lt hb
  · have := (hH2 k (by simp; omega)).1
    rw [this]
    congr 2
    rw [getElem!_pos _ _ (by simp; omega)]
    simp [List.getElem_append_left hk]
theorem suffix_any (s : ByteArray) (w : World) (hs : s.size ≤ 9223372036854775807) : Calls Tryz.prog 69 #[.string s, .string ⟨#[47]⟩] w fun e w' => e = .returned (.bool (slashS s.data.toList)) ∧ w' = w := by
  have h := Any.strings_HasSuffix Tryz.laysSuffix s slashBA w hs
  have he : Lib.hasSuffix s.data.toList slashBA.data.toList = slashS s.data.toList := by
    show ([47] : List UInt8).isSuffixOf s.data.toList = (s.data.toList.getLast? == some slashB)
    generalize s.data.toList = l
    rcases List.eq_nil_or_concat l with rfl | ⟨r, c, rfl⟩
    · rfl
    · have : ([47] : List UInt8).isSuffixOf (r ++ [c]) = (c == 47) := by
        simp [List.isSuffixOf, List.isPrefixOf]
        exact Bool.beq_comm
      rw [List.concat_eq_append, this]
      simp [slashB]
  rw [he] at h
  exact h
end Go.Proofs.YtlhmmiolnbgloaaGreatDoor

/- What a lifting proof wants of a program whose rows list variables: the wrap that hands on the world's shape and the reach beside what is laid; the library's own variable. No condition. -/
namespace Go.Proofs.YtlhmmiolnbgloaaGreatDoor
open Go.ChangeShapes Go.WideShapes Go.ChangeAt Go.RowKit Go.Deep

theorem own : ownKnob Tryz.prog.godebug = none := by kernel_rfl
theorem laidOut : laidOutB Tryz.prog = true := by kernel_rfl
section
variable {H : Type} {enc : TypeId × Value → H}
/-- The wrap: what is laid, the reach and the world's shape, all handed on. -/
theorem returns_laid_shaped {a : Assume} {C : Checked} {os : Os} {f : FuncId} {fn : Func} {s : ChangeSpec} {conds : List PathCond} {apart fresh handsOn again : Bool} {X : World → Array Value → Prop}
    (hX : ∀ (w w' : World) (args : Array Value), w.heap = w'.heap → X w args → X w' args)
    (own : ownKnob C.prog.godebug = none) (started : os.Started) (noInit : C.prog.inits.idxOf? f = none) (hfn : C.prog.funcs[f]? = some fn)
    (witness : ∃ (w : World) (tape : Tape) (i : Input), w.os = os ∧ (w.forCall tape i).Shaped C.prog ∧ i.vars = [] ∧ Input.okWide C.prog (w.forCall tape i) .any w.heap.size f i ∧
      ((s.pre enc C.prog fn conds apart (w.forCall tape i).memory i.args ∧ X (w.forCall tape i).memory i.args) ∧ sizedMet enc C.prog fn (OpenSpec.ofChange s) apart (w.forCall tape i).memory i.args) ∧ a.holds C.prog (lone (Frame.enter C.prog f i.args .normal) [] (w.forCall tape i)))
    (contract : ∀ (W : World) (base : Nat) (args : Array Value) (ds gs : List (DataW H)) (before : List MemPlace),
      (∀ (j : Nat) t v, fn.params[j]? = some t → args[j]? = some v → Value.okWide C.prog W .any base t v) →
      DataW.Whole enc C.prog fn.params.toList s.vars apart W args.toList ds gs before →
      (DataW.weightsEach C.prog (fn.params.toList ++ s.plain.varTypes C.prog) (ds ++ gs)).all (· ≤ reachBytes) = true →
      W.ShapedOpen C.prog → X W args →
      Calls C.prog f args W fun e W' => ∃ v, e = .returned v ∧ s.post enc C.prog fn apart fresh handsOn again W args v W') :
    ReturnsInHanded a C os f .any (fun w args => (s.pre enc C.prog fn conds apart w args ∧ X w args) ∧ sizedMet enc C.prog fn (OpenSpec.ofChange s) apart w args) (s.post enc C.prog fn apart fresh handsOn again) := by
  refine returnsInHanded_of_calls own started noInit witness ?_
  intro w tape i _ hsh _ hok hpre hholds
  obtain ⟨_, _, _, fn', hfn', _, _, _, _, hval⟩ := hok
  have e : fn' = fn := Option.some.inj (hfn'.symm.trans hfn)
  subst e
  obtain ⟨⟨⟨ds, gs, before, hw, hc⟩, hx⟩, hz⟩ := hpre
  have hw' := DataW.Whole.of_heap (w' := w.forCall tape i) (by rfl) hw
  refine (contract (w.forCall tape i) w.heap.size i.args ds gs before hval hw' (hz.weights hw) hsh (hX _ _ _ (by rfl) hx)).mono fun e W' ⟨v, he, hp⟩ => ?_
  subst he
  exact ChangeSpec.post_blind hp
end
theorem ml_of_shaped {W : World} (h : W.ShapedOpen Tryz.prog) : Ml W :=
  cell_of_shapedOpen_int (t := 3) (zero := #[.int .i64 0]) h (of_decide_eq_true (by kernel_rfl)) (by kernel_rfl) rfl (by kernel_rfl) (by kernel_rfl) Tryz.underlying3
end Go.Proofs.YtlhmmiolnbgloaaGreatDoor

/- Patterns as plain data: members, brackets, one element, Match as rounds; a quoted text with a star. No program in sight; no condition. -/
namespace Go.Proofs.YtlhmmiolnbgloaaGreatDoor
open Go.RowKit

/-- A byte of a pattern, and whether it was quoted. -/
structure Ch where
  b : UInt8
  q : Bool
instance : DecidableEq Ch := fun ⟨a, b⟩ ⟨c, d⟩ => if h : a = c ∧ b = d then isTrue (by rw [h.1, h.2]) else isFalse (fun e => h ⟨congrArg Ch.b e, congrArg Ch.q e⟩)
def starB : UInt8 := 42
def qmB : UInt8 := 63
def opB : UInt8 := 91
def clB : UInt8 := 93
def bangB : UInt8 := 33
def dashB : UInt8 := 45
def un (c : UInt8) : Ch := ⟨c, false⟩
/-- Do unquoted bytes stand at the beginning? -/
def startsL (p : List Ch) (s : List UInt8) : Bool := decide (p.take s.length = s.map un)
/-- A member of a bracket. -/
inductive Mem where
  | cls : Nat → Mem
  | rng : UInt8 → UInt8 → Mem
def upB (c : UInt8) : Bool := decide (65 ≤ c.toNat ∧ c.toNat ≤ 90)
def loB (c : UInt8) : Bool := decide (97 ≤ c.toNat ∧ c.toNat ≤ 122)
def diB (c : UInt8) : Bool := decide (48 ≤ c.toNat ∧ c.toNat ≤ 57)
def holdsM (m : Mem) (c : UInt8) : Bool := match m with
  | .cls 0 => upB c || loB c
  | .cls 1 => diB c
  | .cls 2 => upB c || loB c || diB c
  | .cls 3 => upB c
  | .cls 4 => loB c
  | .cls _ => decide (c.toNat = 32) || decide (9 ≤ c.toNat ∧ c.toNat ≤ 13)
  | .rng a z => decide (a.toNat ≤ c.toNat ∧ c.toNat ≤ z.toNat)
def names6 : List (List UInt8) := ["alpha", "digit", "alnum", "upper", "lower", "space"].map fun s => s.toUTF8.data.toList
def classOf (rest : List Ch) : Option (Nat × Nat) :=
  (List.range 6).foldl (fun acc k => if startsL rest ([91, 58] ++ names6.getD k [] ++ [58, 93]) = true then some (k, (names6.getD k []).length + 4) else acc) none
/-- The next member, and how many elements it takes. -/
def memAt (c : Ch) (r : List Ch) : Mem × Nat :=
  match classOf (c :: r) with
  | some (k, n) => (.cls k, n)
  | none => match r with
    | d :: e :: _ => if d = un dashB ∧ e ≠ un clB then (.rng c.b e.b, 3) else (.rng c.b c.b, 1)
    | _ => (.rng c.b c.b, 1)
/-- All members with what stands behind each (fuel: the length). -/
def membersL : Nat → Bool → List Ch → List (Mem × List Ch)
  | 0, _, _ => []
  | _ + 1, _, [] => []
  | fuel + 1, first, c :: r => if first = true ∨ c ≠ un clB then
      let m := memAt c r
      (m.1, (c :: r).drop m.2) :: membersL fuel false ((c :: r).drop m.2)
    else []
/-- What a bracket says of a byte, and what is behind it. -/
def bracketL (p : List Ch) (c : UInt8) : Option (Bool × List Ch) :=
  let not := startsL (p.drop 1) [bangB]
  let inner := if not then p.drop 2 else p.drop 1
  let ms := membersL inner.length true inner
  let found := ms.any fun m => holdsM m.1 c
  let rest := (ms.getLast?.map (·.2)).getD inner
  match rest with
  | d :: r => if d = un clB ∧ rest.length ≠ inner.length then some (found != not, r) else none
  | [] => none
def oneL (p : List Ch) (c : UInt8) : Bool × List Ch :=
  match p with
  | [] => (false, [])
  | d :: r => if d = un qmB then (true, r) else if d = un opB then (match bracketL (d :: r) c with | some x => x | none => (d.b == c, r)) else (d.b == c, r)
/-- Match's state. -/
structure MSt where
  p : List Ch
  s : List UInt8
  again : List Ch
  fr : List UInt8
  star : Bool
def bare (c : Ch) : Ch := un c.b
/-- What one round makes of it: an answer, or another state. -/
def mstep (t : MSt) : Bool ⊕ MSt :=
  if t.s = [] ∧ t.p = [] then .inl true
  else if startsL t.p [starB] = true then .inr ⟨t.p.drop 1, t.s, t.p.drop 1, t.s, true⟩
  else
    let back : Bool ⊕ MSt := if t.star = false ∨ t.fr = [] then .inl false else .inr ⟨t.again, t.fr.drop 1, t.again, t.fr.drop 1, t.star⟩
    match t.s with
    | [] => back
    | c :: s => if t.p ≠ [] ∧ (oneL t.p c).1 = true then .inr ⟨(oneL t.p c).2, s, t.again, t.fr, t.star⟩ else back
inductive Mt : MSt → Bool → Prop
  | fin {t : MSt} {r : Bool} : mstep t = .inl r → Mt t r
  | go {t u : MSt} {r : Bool} : mstep t = .inr u → Mt u r → Mt t r
theorem Mt.det {t : MSt} {r : Bool} (h : Mt t r) : ∀ {r' : Bool}, Mt t r' → r = r' := by
  induction h with
  | fin e => intro r' h'; cases h' with
    | fin e' => rw [e] at e'; exact Sum.inl.inj e'
    | go e' _ => rw [e] at e'; cases e'
  | go e _ ih => intro r' h'; cases h' with
    | fin e' => rw [e] at e'; cases e'
    | go e' h'' => rw [e] at e'; cases Sum.inr.inj e'; exact ih h''
def plainL (s : List UInt8) : List Ch := s.map fun c => ⟨c, true⟩
theorem starts_q (c : UInt8) (r : List Ch) : startsL (⟨c, true⟩ :: r) [starB] = false := by simp [startsL, un]
theorem one_q (c d : UInt8) (r : List Ch) : oneL (⟨c, true⟩ :: r) d = (c == d, r) := by simp [oneL, un]
theorem match_rest (s : List UInt8) : Mt ⟨[], s, [], s, true⟩ true := by
  induction s with
  | nil => exact .fin (by simp [mstep])
  | cons c s ih => exact .go (u := ⟨[], s, [], s, true⟩) (by simp [mstep, startsL, un]) ih
/-- Quoted bytes with a star behind: what begins with them. -/
theorem match_pre : ∀ (t s : List UInt8), Mt ⟨plainL t ++ [un starB], s, [], [], false⟩ (t.isPrefixOf s)
  | [], s => .go (u := ⟨[], s, [], s, true⟩) (by simp [mstep, plainL, startsL, un]) (by simpa [List.isPrefixOf] using match_rest s)
  | c :: t, [] => .fin (by simp [mstep, plainL, startsL, un, List.isPrefixOf])
  | c :: t, d :: s => by
    have h1 : plainL (c :: t) ++ [un starB] = ⟨c, true⟩ :: (plainL t ++ [un starB]) := rfl
    rw [h1]
    by_cases e : c = d
    · subst e
      have ih := match_pre t s
      refine .go (u := ⟨plainL t ++ [un starB], s, [], [], false⟩) ?_ (by simpa [List.isPrefixOf] using ih)
      simp [mstep, starts_q, one_q]
    · refine .fin ?_
      simp [mstep, starts_q, one_q, List.isPrefixOf, e]
theorem le_pre (p a b : List UInt8) : p ++ a ≤ p ++ b ↔ a ≤ b := by
  induction p with
  | nil => simp
  | cons c p ih =>
    rw [List.cons_append, List.cons_append, List.cons_le_cons_iff]
    constructor
    · rintro (h | ⟨_, h⟩)
      · exact absurd h (UInt8.lt_irrefl c)
      · exact ih.1 h
    · intro h
      exact .inr ⟨rfl, ih.2 h⟩
theorem sort_pre (p : List UInt8) (l : List (List UInt8)) : (l.map (p ++ ·)).mergeSort (fun x y => decide (x ≤ y)) = (l.mergeSort (fun x y => decide (x ≤ y))).map (p ++ ·) := by
  refine (List.map_mergeSort (r := fun x y => decide (x ≤ y)) (s := fun x y => decide (x ≤ y)) (f := fun x => p ++ x) (l := l) ?_).symm
  intro a _ b _
  simp only [decide_eq_decide]
  exact (le_pre p a b).symm
/-- Each once. -/
def compactL : List (List UInt8) → List (List UInt8)
  | [] => []
  | [x] => [x]
  | x :: y :: r => if x = y then compactL (y :: r) else x :: compactL (y :: r)
theorem compact_pre (p : List UInt8) : ∀ l : List (List UInt8), compactL (l.map (p ++ ·)) = (compactL l).map (p ++ ·)
  | [] => rfl
  | [x] => rfl
  | x :: y :: r => by
    have ih := compact_pre p (y :: r)
    simp only [List.map_cons] at ih ⊢
    unfold compactL
    by_cases e : x = y
    · rw [if_pos e, if_pos (by rw [e])]; exact ih
    · rw [if_neg e, if_neg (fun h => e (List.append_cancel_left h)), ih]; rfl
end Go.Proofs.YtlhmmiolnbgloaaGreatDoor

/- Regions that draw their order: what only reads first, then calls in a forced order, then a rest that is quiet in a class of worlds (one walk of the text's order). Conditions: closed facts on the region, by the kernel; the laws' premises. -/
namespace Go.Proofs.YtlhmmiolnbgloaaGreatDoor
open Go.RowKit

section
variable {P : Program} {ops : Array Oper} {Q : Exit → Act → World → Prop} {S : World → Prop}
def midQ (ops : Array Oper) (n : Nat) (R : Array Bool → Bool) : List Nat → Array Bool → Bool
  | [], listed => R listed
  | i :: is, listed => decide (i < n) && (Region.ready .any ops listed == [i]) && midQ ops n R is (listed.setIfInBounds i true)
def restQ (ops : Array Oper) (n g : Nat) (listed : Array Bool) : Bool := Region.lexFrom .any ops g n listed && (Region.ready .any ops listed).all (fun j => decide (n ≤ j))
theorem anyT_midq {n : Nat} {R : Array Bool → Bool} {L : Act → World → Prop} : ∀ (is : List Nat) (listed : Array Bool) (a : Act) (w : World), (∀ i ∈ is, i < ops.size) → midQ ops n R is listed = true → chainS P ops Q S L (pickOps ops is) a w →
    anyT P ops Q S n (fun listed' a' w' => R listed' = true ∧ L a' w') is.length listed a w
  | [], listed, a, w, _, hB, h => ⟨hB, h⟩
  | i :: is, listed, a, w, hlt, hB, h => by
    simp only [midQ, Bool.and_eq_true, decide_eq_true_eq, beq_iff_eq] at hB
    obtain ⟨⟨hin, hr⟩, hB'⟩ := hB
    obtain ⟨o, ho⟩ : ∃ o, ops[i]? = some o := ⟨_, Array.getElem?_eq_getElem (hlt i (by simp))⟩
    have hpk : pickOps ops (i :: is) = o :: pickOps ops is := by simp [pickOps, ho]
    rw [hpk] at h
    refine ⟨by rw [hr]; simp, fun k hk => ?_⟩
    rw [hr] at hk
    simp only [List.mem_cons, List.not_mem_nil, or_false] at hk
    subst hk
    refine ⟨hin, wpOp_of_one ho ?_⟩
    unfold chainS wpOne at h
    unfold wpOne
    exact cond_mono (fun a' w' ⟨hS, h'⟩ => ⟨hS, anyT_midq is _ a' w' (fun j hj => hlt j (List.mem_cons_of_mem _ hj)) hB' h'⟩) h
/-- Whatever stands behind n waits for something from n on. -/
def chainW (ops : Array Oper) (n : Nat) : Bool := (List.range ops.size).all fun t => decide (t ≤ n) || (List.range t).any (fun j => decide (n ≤ j) && Region.waitsFor .any ops t j)
theorem MixInv.waitsW {n d : Nat} {listed : Array Bool} (inv : MixInv ops n listed) (hc : chainW ops n = true) (hn : n < ops.size) :
    ∀ (m i : Nat), n - i = m → i ∈ mustOf ops n d → i < n → listed.getD i true = false → ∀ t, n ≤ t → t ∉ Region.ready .any ops listed := by
  intro m
  induction m using Nat.strongRecOn with
  | _ m ih =>
    intro i hm hi hin hun t ht hr
    obtain ⟨_, ot, hot, hall⟩ := mem_ready.1 hr
    have htlt : t < ops.size := (Array.getElem?_eq_some_iff.1 hot).1
    by_cases htn : t = n
    · subst htn
      obtain ⟨j, hj, hij, hw⟩ := (mustOf_spec t d i hi).2 (by omega)
      have hjt := (mustOf_spec t d j hj).1
      obtain ⟨oj, hoj, e, he, hb, hon⟩ := Region.waitsFor_spec hw
      by_cases hjt' : j = t
      · subst hjt'
        obtain rfl : oj = ot := Option.some.inj (hoj.symm.trans hot)
        have h2 := hall e he hb
        rw [hon, getD_both hun] at h2
        cases h2
      · cases hl : listed.getD j false with
        | true =>
          have h2 := inv.closed j oj hoj hl e he hb
          rw [hon, getD_both hun] at h2
          cases h2
        | false =>
          have hjs : j < listed.size := by rw [inv.size]; omega
          exact ih (t - j) (by omega) j rfl hj (by omega) (getD_in hjs hl) t (Nat.le_refl _) hr
    · have h1 := List.all_eq_true.1 hc t (List.mem_range.2 htlt)
      simp only [Bool.or_eq_true, decide_eq_true_eq, List.any_eq_true, List.mem_range, Bool.and_eq_true] at h1
      rcases h1 with h1 | ⟨j, hjt, hnj, h1⟩
      · omega
      · obtain ⟨o', ho', e, he, hb, hon⟩ := Region.waitsFor_spec h1
        obtain rfl : o' = ot := Option.some.inj (ho'.symm.trans hot)
        have h2 := hall e he hb
        rw [hon, getD_both (inv.tail j hnj (by omega))] at h2
        cases h2
theorem anyT_headsW {n d f : Nat} {L : Array Bool → Act → World → Prop} {w : World} (hs : Region.noSelect ops = true) (hQ : ∀ c a d v w, Q (.panic c) (Act.put a d v) w → Q (.panic c) a w) (hc : chainW ops n = true) (hn : n < ops.size) (hS : S w)
    (hdone : ∀ listed a w, L listed a w → ∀ j ∈ Region.ready .any ops listed, n ≤ j) {K : Act → Prop} :
    ∀ (is : List Nat) (listed : Array Bool) (a : Act), MixInv ops n listed → (∀ i ∈ is, i < n ∧ i ∈ mustOf ops n d ∧ (ops[i]?.map valueOp).getD false = true) → lexList ops is listed = true →
    (∀ a', K a' → anyT P ops Q S n L f (listAll is listed) a' w) → wpQuiet P ops S K (pickOps ops is) a → anyT P ops Q S n L (is.length + f) listed a w
  | [], listed, a, _, _, _, hk, h => by simpa [listAll] using hk a h
  | i :: is, listed, a, inv, hm, hl, hk, h => by
    simp only [lexList, Bool.and_eq_true, decide_eq_true_eq] at hl
    obtain ⟨⟨⟨hlt, hr⟩, hf⟩, hl'⟩ := hl
    obtain ⟨o, ho⟩ : ∃ o, ops[i]? = some o := ⟨_, Array.getElem?_eq_getElem hlt⟩
    have hr' : i ∈ Region.ready .any ops listed := by simpa using hr
    obtain ⟨hin, hmust, hval⟩ := hm i (by simp)
    rw [ho] at hval
    have hpk : pickOps ops (i :: is) = o :: pickOps ops is := by simp [pickOps, ho]
    rw [hpk] at h
    unfold wpQuiet at h
    rw [List.length_cons, show is.length + 1 + f = (is.length + f) + 1 by omega]
    have key : ∃ v, YieldsIf P ops S o v a ∧ wpQuiet P ops S K (pickOps ops is) (a.put o.dst v) := by
      by_cases hw : Region.wanted o (yielded ops a.tmps) = true
      · rw [if_pos hw] at h
        exact yieldsIf_of_quiet (by simpa using hval) hw ⟨w, hS⟩ h
      · rw [if_neg hw] at h
        exact ⟨undef, .inr ⟨by simpa using hw, rfl⟩, h⟩
    obtain ⟨v, hy, hK⟩ := key
    refine anyT_first (Inv := MixInv ops n) ho hs (fun c a w => hQ c a _ _ w) hin hdone (fun _ _ h1 h2 h3 => h1.set h2 h3)
      (fun _ h1 h2 => h1.waitsW hc hn _ i rfl hmust hin h2) (is.length + f) listed a w inv (Region.free_spec ho hf) hr' hy hS ?_
    exact anyT_headsW hs hQ hc hn hS hdone is _ _ (inv.set hr' hin) (fun j hj => hm j (List.mem_cons_of_mem _ hj)) hl' hk hK
def callsQ (ops : Array Oper) (hd mid : List Nat) (n : Nat) : Bool :=
  let l0 := Array.replicate ops.size false
  Region.noSelect ops && decide (n < ops.size) && chainW ops n && decide (hd.length + mid.length = n) && mid.all (fun k => decide (k < n)) &&
  hd.all (fun k => decide (k < n) && (mustOf ops n n).contains k && (ops[k]?.map valueOp).getD false) && lexList ops hd l0 && midQ ops n (restQ ops n (ops.size - n)) mid (listAll hd l0)
theorem region_calls_q {id : Nat} {a : Act} {w : World} {l : List Oper} (S : World → Prop) (hd mid : List Nat) (n : Nat) (hm : P.follows .mixedOrders = true) (hB : callsQ l.toArray hd mid n = true)
    (hQ : ∀ c a d v w, Q (.panic c) (Act.put a d v) w → Q (.panic c) a w) (hS : S w.drew)
    (h0 : wpQuiet P l.toArray S (fun a1 => chainS P l.toArray Q S (fun a2 w2 => ∃ C : World → Prop, C w2 ∧ wpQuiet P l.toArray C (fun a' => ∀ w', C w' → Q .normal a' w') (l.drop n) a2) (mid.map (fun k => l.getD k default)) a1 w.drew) (hd.map (fun k => l.getD k default)) a) :
    (Code.region id l.toArray true).wp P Q a w := by
  simp only [callsQ, Bool.and_eq_true, decide_eq_true_eq, List.all_eq_true] at hB
  obtain ⟨⟨⟨⟨⟨⟨⟨hs, hn⟩, hc⟩, hlen⟩, hmid⟩, hhd⟩, hlex⟩, hq⟩ := hB
  have hn2 : n < l.length := by simpa using hn
  have h := h0
  rw [← pickOps_map l hd (fun k hk => by have := (hhd k hk).1.1; omega), ← pickOps_map l mid (fun k hk => by have := hmid k hk; omega)] at h
  have inv0 : MixInv l.toArray n (Array.replicate l.toArray.size false) :=
    ⟨by simp, fun j oj _ hl => (by rw [getD_replicate_false] at hl; cases hl), fun t _ ht => getD_in (by simpa using ht) (getD_replicate_false _ _)⟩
  have hg : l.toArray.size - n = (l.drop n).length := by simp
  rw [hg] at hq
  refine wp_region_any hm ?_
  show wpAny P .any l.toArray Q l.toArray.size _ a w.drew
  have hsz : l.toArray.size = (hd.length + mid.length) + (l.drop n).length := by simp at hn ⊢; omega
  have key : wpAny P .any l.toArray Q ((hd.length + mid.length) + (l.drop n).length) (Array.replicate l.toArray.size false) a w.drew := by
    refine any_of_anyT (S := S) (n := n) (L := fun listed' a' w' => restQ l.toArray n (l.drop n).length listed' = true ∧ ∃ C : World → Prop, C w' ∧ wpQuiet P l.toArray C (fun a'' => ∀ w'', C w'' → Q .normal a'' w'') (l.drop n) a') ?_ (hd.length + mid.length) _ _ _ ?_
    · rintro listed a w ⟨hL, C, hC, hq⟩
      simp only [restQ, Bool.and_eq_true] at hL
      exact wpAny_of_quiet (Q := fun a' => ∀ w', C w' → Q .normal a' w') (fun _ w' hw' h => h w' hw') _ _ _ _ hC (wpAnyQ_lex (md := .any) hs (l.drop n) n listed a (fun j => by simp) hL.1 hq)
    · refine anyT_headsW (d := n) hs hQ hc hn hS (fun listed a w hL => ?_) hd _ a inv0 (fun k hk => by have := hhd k hk; exact ⟨this.1.1, by simpa using this.1.2, this.2⟩) hlex ?_ h
      · have h1 := hL.1
        simp only [restQ, Bool.and_eq_true, List.all_eq_true, decide_eq_true_eq] at h1
        exact h1.2
      · intro a1 hA
        exact anyT_midq mid _ a1 w.drew (fun k hk => by have := hmid k hk; omega) hq hA
  rw [← hsz] at key
  exact key
end
end Go.Proofs.YtlhmmiolnbgloaaGreatDoor
