/- shyardlaw08.ask: any call. Conditions: the contract's own premise. -/
import Derived.Test.YthikjdpnlahkfaaDoorFilesAskA
import Derived.Test.YthikjdpnlahkfaaDoorFilesAskB
import Derived.Test.YthikjdpnlahkfaaDoorFilesAskC
import Derived.Test.YthikjdpnlahkfaaDoorFilesAskD
namespace Go.Proofs.YthikjdpnlahkfaaDoor
open Go.RowKit

theorem ask_any (recv : Value) (c : CallQ) (w : World) (R : AnsQ → World → Prop) (h : AskOf recv c (askW w c) (AskR w (askW w c) R)) : Calls Tryd.prog 16 #[recv, callV c] w (AskPost R) := by
  by_cases h0 : c.what < 0 ∨ 15 < c.what
  · exact ask_none recv c w R h0 h
  have hx : c.what = 0 ∨ c.what = 1 ∨ c.what = 2 ∨ c.what = 3 ∨ c.what = 4 ∨ c.what = 5 ∨ c.what = 6 ∨ c.what = 7 ∨ c.what = 8 ∨ c.what = 9 ∨ c.what = 10 ∨ c.what = 11 ∨ c.what = 12 ∨ c.what = 13 ∨ c.what = 14 ∨ c.what = 15 := by omega
  rcases hx with e | e | e | e | e | e | e | e | e | e | e | e | e | e | e | e
  · exact ask_0 recv c w R e h
  · exact ask_1 recv c w R e h
  · exact ask_2 recv c w R e h
  · exact ask_3 recv c w R e h
  · exact ask_4 recv c w R e h
  · exact ask_5 recv c w R e h
  · exact ask_6 recv c w R e h
  · exact ask_7 recv c w R e h
  · exact ask_8 recv c w R e h
  · exact ask_9 recv c w R e h
  · exact ask_10 recv c w R e h
  · exact ask_11 recv c w R e h
  · exact ask_12 recv c w R e h
  · exact ask_13 recv c w R e h
  · exact ask_14 recv c w R e h
  · exact ask_15 recv c w R e h
end Go.Proofs.YthikjdpnlahkfaaDoor
