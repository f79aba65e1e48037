/- Law 04: the small case's trees, in plain words. -/
import Derived.Test.YtmfdiclbenmfbaaDoorExprJ
import Derived.Test.YtmfdiclbenmfbaaDoorExprQ
import Derived.Test.YtmfdiclbenmfbaaDoorExprR
import Derived.Test.YtmfdiclbenmfbaaDoorExprT
namespace Go.Proofs.YtmfdiclbenmfbaaDoor
open Go.RowKit
def xE : Tr := .mk 2 0 []
def nT (n : Int) : Tr := .mk 1 n []
def smE : Tr := .mk 6 0 [.mk 5 6 [xE, nT 0], .mk 5 4 [nT 1, xE], .mk 5 2 [xE, nT 7]]
def smT : Tr := .mk 5 3 [.mk 5 1 [xE, nT (-1)], nT 2]
def smP : Tr := .mk 6 0 [.mk 5 6 [nT 9, nT 0], .mk 5 4 [nT 1, nT 9], .mk 5 2 [nT 9, nT 7]]
theorem sm_put : putT 0 (nT 9) smE = smP := by
  simp [smE, smP, xE, nT, putT, putL]
theorem sm_eval5 : evalV [5] smE = (-2, 0) := by decide +kernel
theorem sm_eval0 : evalV [0] smE = (0, 7) := by decide +kernel
theorem sm_evalN : evalV [] smE = (0, 1) := by decide +kernel
theorem sm_evalP : evalV [] smP = (2, 0) := by decide +kernel
theorem sm_depth : depthT smE = 3 := by decide +kernel
theorem sm_size : sizeT smE = 10 := by decide +kernel
theorem sm_sizeT : sizeT smT = 5 := by decide +kernel
theorem sm_sizeP : sizeT smP = 10 := by decide +kernel
theorem sm_vars : varsT smE = [0] := by
  refine strict_unique _ _ (varsT_sorted smE) (by simp) fun x => ?_
  rw [mem_varsT]
  simp [smE, xE, nT, hasT, hasL, eq_comm]
theorem dd (n : Nat) (h : n < 10) : Lib.itoa (n : Int) = [UInt8.ofNat (48 + n)] := by
  unfold Lib.itoa
  rw [if_neg (by omega)]
  exact Lib.decDigits_one (by omega)
theorem it0 : Lib.itoa 0 = [48] := dd 0 (by omega)
theorem it1 : Lib.itoa 1 = [49] := dd 1 (by omega)
theorem it2 : Lib.itoa 2 = [50] := dd 2 (by omega)
theorem it7 : Lib.itoa 7 = [55] := dd 7 (by omega)
theorem itm : Lib.itoa (-1) = [45, 49] := by
  unfold Lib.itoa
  rw [if_pos (by decide), show (-1 : Int).natAbs = 1 from rfl, Lib.decDigits_one (by omega)]; rfl
theorem sm_text : textT [⟨#[120]⟩] smE = [105, 102, 40, 120, 32, 61, 61, 32, 48, 44, 32, 49, 32, 47, 32, 120, 44, 32, 120, 32, 45, 32, 55, 41] := by
  simp [smE, xE, nT, textT, textL, textN, kidS, decP, nameS, signOf, signStrs, signBytes, strI, Tr.kind, Tr.num, it0, it1, it7]
theorem sm_text2 : textT [⟨#[120]⟩] smT = [40, 120, 32, 43, 32, 40, 45, 49, 41, 41, 32, 42, 32, 50] := by
  simp [smT, xE, nT, textT, textL, textN, kidS, decP, nameS, signOf, signStrs, signBytes, strI, Tr.kind, Tr.num, it2, itm]
end Go.Proofs.YtmfdiclbenmfbaaDoor
