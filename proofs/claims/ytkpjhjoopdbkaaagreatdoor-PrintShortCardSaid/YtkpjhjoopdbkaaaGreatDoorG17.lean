/- Joined: Package parse: placed. Printed by gen_pbA.py. Package parse: once. Printed by gen_paX.py. -/
import Derived.Test.YtkpjhjoopdbkaaaGreatDoorG16
import Derived.Deep.DeepCutAuto
import Derived.Deep.CutBlock
import Derived.StillTailTactics
import Derived.Test.YtkpjhjoopdbkaaaGreatDoorG15
namespace Go.Proofs.YtkpjhjoopdbkaaaGreatDoor
open Go.RowKit
/-- The keys' row, new. -/
def KeyR (D : DataW Unit) (w : World) (e : Ending) (w' : World) : Prop :=
  ∃ A c K, e = .returned (.slice A K.length c) ∧ K.Pairwise (· < ·) ∧ (∀ x, x ∈ K ↔ Maps.has D (.int .i64 x) = true) ∧ (∀ x ∈ K, I64 x) ∧ w'.ownsRow w.heap.size 3 1 (.slice A K.length c) K.length (intCells K) ∧ Below w.heap.size w w'
set_option maxHeartbeats 1000000 in
theorem sorted_row (b nn : Nat) (D0 : DataW Unit) (w : World) (hown : OwnI w b nn D0) (hmax : nn < 1000000000000) :
    Calls Tryz.prog 130 #[.func (.func 166) #[] #[.pointer (some ⟨w.heap.size, 0, none⟩)]] (w.alloc (.cells #[.map (some b)] 160)) (KeyR D0 (w.alloc (.cells #[.map (some b)] 160))) := by
  have hbl := hown.lt
  have hsz : Maps.size D0 ≤ nn := hown.size_le
  have hseq : SeqGives Fence.wide 2 Tryz.prog 166 #[.pointer (some ⟨w.heap.size, 0, none⟩)] encZ (fun ss => ss.Perm (intKeys D0)) (Maps.size D0) (w.alloc (.cells #[.map (some b)] 160)) :=
    AnyZI.keys_gives (ρ := Tryz.keysA_ren) { Tryz.keysA with } Fence.wide _ trivial rfl (by omega) w.heap.size b nn D0 _ (by simp) (by simp) (by
      obtain ⟨es, clock, hb, Ft, hs, hD⟩ := hown
      exact ⟨es, clock, (Below.heap_alloc _ _ b hbl).trans hb, Ft, hs, hD⟩)
  have cS := AnyZI.sorted_in Tryz.sortedA Fence.wide 5 trivial trivial trivial trivial rfl (by omega) (sortsA _) (enters_of Tryz.func165 (by kernel_rfl) rfl) 166 #[.pointer (some ⟨w.heap.size, 0, none⟩)] trivial (enters_of Tryz.func166 (by kernel_rfl) rfl) _ _ (by unfold maxLen; omega) (by omega) _ hseq
  refine (callsIn_wide.1 cS).mono ?_
  rintro e w' ⟨v, ss, rfl, hS, hrow, _, hb⟩
  obtain ⟨k1, k2, k3, k4⟩ := keys_sorted hown hS
  have hl : (ss.mergeSort leI).length = ss.length := (List.mergeSort_perm ss leI).length_eq
  have hrow2 : w'.ownsRow (w.alloc (.cells #[.map (some b)] 160)).heap.size 3 1 v (ss.mergeSort leI).length (intCells (ss.mergeSort leI)) := by
    rw [hl]; exact hrow
  obtain ⟨A, c, rfl, _, _⟩ := own_form hrow2
  exact ⟨A, c, ss.mergeSort leI, rfl, k1, k2, k3, hrow2, hb⟩
theorem pls_ty : SlTy Tryz.prog 36 66 3 48 := SlTy.mk (z := .agg #[.string ⟨#[]⟩, .int .i64 0, .slice none 0 0]) (by kernel_rfl) (by kernel_rfl) rfl (by decide)
section
variable {T : List Tok} {en : Int} {g : Nat} {A : Option Addr} {c base : Nat} {h : Hs} {L1 : List ColV} {L2 : List PlV} {L3 : List TkV} {s : Ps}
set_option maxRecDepth 100000 in
set_option maxHeartbeats 16000000 in
theorem pa_placed (w : World) (hN : Hid (NAt T en g A c base h L1 L2 L3 s w)) (hb : Hid (s.cols.length ≤ 1000000 ∧ s.pls.length ≤ 1000000)) :
    Calls Tryz.prog 70 #[.pointer (some ⟨g, 0, none⟩)] w fun e w' => e = .returned (.tuple #[]) ∧ NTurn T en g A c base h (placeS (ktOf T) s) w w' := by
  have hp := Lib.hid hN.out.pat
  have HGL := Lib.hid hp.out.blk.lt
  have hmm := @run_makeMap Tryz.prog
  obtain ⟨nm, hnm⟩ : ∃ x, x = nameV (ktOf T) s := ⟨_, rfl⟩
  obtain ⟨s1, hs1⟩ : ∃ x, x = freshS (ktOf T) (hadT (findPl s)) s := ⟨_, rfl⟩
  obtain ⟨s2, hs2⟩ : ∃ x, x = wantP (ktOf T) ⟨#[58]⟩ s1 := ⟨_, rfl⟩
  obtain ⟨kv, hkv⟩ : ∃ x, x = knownV (ktOf T) (findCol s2) s2 := ⟨_, rfl⟩
  obtain ⟨s3, hs3⟩ : ∃ x, x = knownS (ktOf T) (findCol s2) s2 := ⟨_, rfl⟩
  obtain ⟨R, hR⟩ : ∃ x, x = firstC (ktOf T) s3 := ⟨_, rfl⟩
  obtain ⟨z, hz⟩ : ∃ x, x = wantP (ktOf T) ⟨#[59]⟩ R.2 := ⟨_, rfl⟩
  have HCS := Lib.hid (show placeS (ktOf T) s = { z with pls := z.pls ++ [⟨nm, kv, R.1.filter fun q => decide (0 < q.2)⟩] } by unfold placeS; rw [hz, hR, hs3, hkv, hs2, hs1, hnm])
  have HM1 := Lib.hid (show Mv (ktOf T) s s1 by rw [hs1]; exact mv_fresh _ s)
  have HM2 := Lib.hid (show Mv (ktOf T) s s2 by rw [hs2]; exact HM1.out.trans (mv_want (by decide) _))
  have HM3 := Lib.hid (show Mv (ktOf T) s s3 by rw [hs3]; exact HM2.out.trans (mv_known _ _))
  have HKV := Lib.hid (show I64 kv by rw [hkv]; exact known_lo s2 (by rw [List.length_map, HM2.out.cols]; exact hb.out.1))
  have HZ := Lib.hid hz
  have HR := Lib.hid hR
  obtain ⟨Q, hQ⟩ : ∃ x, x = placeS (ktOf T) s := ⟨_, rfl⟩
  rw [← hQ] at HCS ⊢
  have CI := Lib.hid (pa_is (g := g) 73 w)
  have CF := Lib.hid (fun W b (hW : PAt T en g A c h s W) (a : AgH (only g) w W) (hb : FBox W b g 73) (hbg : b ≠ g) => (show Calls Tryz.prog 125 #[.pointer (some ⟨g, 0, none⟩), .func (.func 161) #[] #[.pointer (some ⟨b, 0, none⟩)]] W fun e w' => e = .returned (.string nm) ∧ Turned T en g A c h s1 W w' by
    rw [hnm, hs1]; exact pa_fresh_is 73 b (findPl s) W (Lib.hid hW) (Lib.hid (hN.out.fpl a)) (Lib.hid hb) hbg))
  have C2 := Lib.hid (fun W (hW : PAt T en g A c h s1 W) => (show Calls Tryz.prog 74 #[.pointer (some ⟨g, 0, none⟩), .string ⟨#[58]⟩] W fun e w' => e = .returned (.tuple #[]) ∧ Turned T en g A c h s2 W w' by
    rw [hs2]; exact pa_want ⟨#[58]⟩ (by decide) W (Lib.hid hW)))
  have CK := Lib.hid (fun W (hW : PAt T en g A c h s2 W) (a : AgH (only g) w W) => (show Calls Tryz.prog 72 #[.pointer (some ⟨g, 0, none⟩), .func (.func 127) #[.pointer (some ⟨g, 0, none⟩)] #[]] W fun e w' => e = .returned (.int .i64 kv) ∧ Turned T en g A c h s3 W w' by
    rw [hkv, hs3]; exact pa_known 127 (findCol s2) W (Lib.hid hW) (Lib.hid (finds_col W (by rw [HM2.out.cols]; exact hN.out.held.1.go a)))))
  have CZ := Lib.hid (fun W (hW : PAt T en g A c h R.2 W) => (show Calls Tryz.prog 74 #[.pointer (some ⟨g, 0, none⟩), .string ⟨#[59]⟩] W fun e w' => e = .returned (.tuple #[]) ∧ Turned T en g A c h z W w' by
    rw [hz]; exact pa_want ⟨#[59]⟩ (by decide) W (Lib.hid hW)))
  clear hnm hs1 hs2 hs3 hkv hR hz hQ
  go_enter Tryz.func70, Tryz.ntmps70
  go_wp2_with fail
  refine CI.out.mono ?_
  rintro e w1 ⟨rfl, hB1, hF1, hL1⟩
  have HB1 := Lib.hid hB1
  have HT0 := Lib.hid (turned_below hp.out hB1)
  have HF1 := Lib.hid hF1
  obtain ⟨b, hbb⟩ : ∃ b, b = w.heap.size := ⟨_, rfl⟩
  rw [← hbb] at HF1
  have HBB := Lib.hid hbb
  have HBN := Lib.hid (show b ≠ g by have := HGL.out; omega)
  rw [← hbb]
  clear hB1 hF1 hL1 hbb CI
  go_wp2_with fail
  refine (CF.out w1 b HT0.out.1 HT0.out.2 HF1.out HBN.out).mono ?_
  rintro e w2 ⟨rfl, hT⟩
  have HT2 := Lib.hid (HT0.out.then_ hT)
  obtain ⟨w3, hw3⟩ : ∃ y, y = w2.alloc (.cells #[.string nm, .int .i64 0, .slice none 0 0] 66) := ⟨_, rfl⟩
  obtain ⟨g2, hg2⟩ : ∃ y, y = w2.heap.size := ⟨_, rfl⟩
  have R3 := Lib.hid (show w3.heap[g2]? = some (.cells #[.string nm, .int .i64 0, .slice none 0 0] 66 (0, 0)) by rw [hw3, hg2]; exact heap_alloc_new w2 _)
  have HT3 := Lib.hid (show Turned T en g A c h s1 w w3 by rw [hw3]; exact HT2.out.below (alrB _ _))
  have HG2 := Lib.hid (show w.heap.size ≤ g2 by rw [hg2]; exact HT2.out.2.size)
  have HN2 := Lib.hid (show g2 ≠ g by have := HG2.out; have := HGL.out; omega)
  have HW3 := Lib.hid hw3.symm
  have HGG := Lib.hid hg2.symm
  clear hT hw3 hg2 CF
  go_upto_region 1 with fail
  rw [HW3.out, HGG.out]
  go_wp2_with fail
  refine (C2.out w3 HT3.out.1).mono ?_
  rintro e w4 ⟨rfl, hT⟩
  have HT4 := Lib.hid (HT3.out.then_ hT)
  have R4 := Lib.hid (row_keep R3.out hT.2 HN2.out)
  clear hT R3 C2
  go_wp2_with fail
  refine (CK.out w4 HT4.out.1 HT4.out.2).mono ?_
  rintro e w5 ⟨rfl, hT⟩
  have HT5 := Lib.hid (HT4.out.then_ hT)
  have R5 := Lib.hid (row_keep R4.out hT.2 HN2.out)
  clear hT R4 CK
  have c1 : w5.cell? ⟨g2, 1, none⟩ = some (.int .i64 0) := row_cell R5.out 1 _ rfl
  have f1 := frozen_row (o := 1) R5.out
  go_upto_region 3 with fail
  obtain ⟨w6, hw6⟩ : ∃ y, y = w5.setCell ⟨g2, 1, none⟩ (.int .i64 kv) := ⟨_, rfl⟩
  rw [← hw6]
  have HT6 := Lib.hid (show Turned T en g A c h s3 w w6 by rw [hw6]; exact Turned.store hp.out HT5.out HM3.out.vars HG2.out HN2.out _ _)
  have R6 := Lib.hid (show w6.heap[g2]? = some (.cells #[.string nm, .int .i64 kv, .slice none 0 0] 66 (0, 0)) by rw [hw6]; exact row_set R5.out rfl)
  clear hw6 c1 f1 HT5 R5
  go_upto_region 4 with fail
  obtain ⟨mb, hmb⟩ : ∃ y, y = w6.heap.size := ⟨_, rfl⟩
  obtain ⟨w7, hw7⟩ : ∃ y, y = w6.alloc (.map #[] 0) := ⟨_, rfl⟩
  rw [← hw7, ← hmb]
  have HMC0 := Lib.hid (show MapC w7 mb 0 [] by
    rw [hw7, hmb]
    refine ⟨.map [], World.ownsMap_made _ _ _ _, fun k => ?_⟩
    rw [Maps.atKey_of_not_has (by rfl)]; rfl)
  have HT7 := Lib.hid (show Turned T en g A c h s3 w w7 by rw [hw7]; exact HT6.out.below (alrB _ _))
  have R7 := Lib.hid (show w7.heap[g2]? = some (.cells #[.string nm, .int .i64 kv, .slice none 0 0] 66 (0, 0)) by rw [hw7]; exact row_keep' (H := fun _ => False) R6.out (AgH.of_below (alrB _ _)) (fun e => e))
  have HMB := Lib.hid (show w.heap.size ≤ mb by rw [hmb]; exact HT6.out.2.size)
  have HMG := Lib.hid (show mb ≠ g by have := HMB.out; have := HGL.out; omega)
  have HMN := Lib.hid (show mb ≠ g2 by rw [hmb]; have := (Array.getElem?_eq_some_iff.1 R6.out).1; omega)
  have HML := Lib.hid (show mb < w7.heap.size by rw [hw7, World.size_alloc, hmb]; omega)
  have HTS := Lib.hid hp.out.small.len
  clear hw7 hmb HT6 R6
  have CT := Lib.hid (fun W (hW : PAt T en g A c h s3 W) => pa_take ⟨#[61]⟩ (by decide) W (Lib.hid hW))
  have HRD := Lib.hid (show R = if takeB (ktOf T) ⟨#[61]⟩ s3 then countsP (ktOf T) (((ktOf T)).length + 1) [] (stepP s3) else ([], s3) from HR.out)
  have TT := Lib.hid (fun e => take_true (x := ⟨#[61]⟩) (K := (ktOf T)) (s := s3) e)
  have TF := Lib.hid (fun e => take_false (x := ⟨#[61]⟩) (K := (ktOf T)) (s := s3) e)
  obtain ⟨t, ht⟩ : ∃ t, t = takeB (ktOf T) ⟨#[61]⟩ s3 := ⟨_, rfl⟩
  obtain ⟨P, hP⟩ : ∃ P, P = takeP (ktOf T) ⟨#[61]⟩ s3 := ⟨_, rfl⟩
  rw [← ht] at CT TT TF HRD
  rw [← hP] at CT TT TF
  have HBt := Lib.hid ht
  clear ht hP
  go_wp2_with fail
  refine (CT.out _ HT7.out.1).mono ?_
  rintro e w8 ⟨rfl, hT⟩
  have R8 := Lib.hid (row_keep R7.out hT.2 HN2.out)
  have HT8 := Lib.hid (HT7.out.then_ hT)
  have HMC8 := Lib.hid (HMC0.out.keep hT.2 HMG.out)
  clear hT R7 HMC0 HT7
  go_upto_if 24 with fail
  go_cut [] (fun wx => ∃ nn : Nat, Hid (CntOk R.1) ∧ Hid (MapC wx mb nn R.1) ∧ Hid (nn ≤ T.length + 1) ∧ Hid (wx.heap[g2]? = some (.cells #[.string nm, .int .i64 kv, .slice none 0 0] 66 (0, 0))) ∧ Hid (Turned T en g A c h R.2 w wx) ∧ Hid (Mv (ktOf T) s R.2))
  case first =>
    cases t with
    | false =>
      have HRE := Lib.hid (HRD.out.trans (if_neg (by decide)))
      rw [TF.out rfl] at HT8
      go_wp2
      go_meet
      rw [HRE.out]
      exact ⟨0, Lib.hid ⟨List.Pairwise.nil, fun p hp => nomatch hp⟩, HMC8, Lib.hid (by omega), R8, HT8, HM3⟩
    | true =>
      have HRE := Lib.hid (HRD.out.trans (if_pos rfl))
      rw [TT.out rfl] at HT8
      have hl1 := take_lt (x := ⟨#[61]⟩) (by decide) HBt.out.symm
      obtain ⟨s4, hs4⟩ : ∃ y, y = stepP s3 := ⟨_, rfl⟩
      have HM4 := Lib.hid (show Mv (ktOf T) s s4 by rw [hs4]; exact HM3.out.trans (mv_step hl1.2))
      rw [ktOf_len, ← hs4] at HRE
      rw [← hs4] at HT8
      clear hs4 hl1
      go_wp2_with fail
      go_loopg [4] (T.length + 1) (fun n v4 wr => ∃ (m : Bool) (l : Row) (sx : Ps) (nn : Nat), v4 = .bool m ∧ Hid (wr.heap[g2]? = some (.cells #[.string nm, .int .i64 kv, .slice none 0 0] 66 (0, 0))) ∧ Hid (CntOk l) ∧ Hid (MapC wr mb nn l) ∧ Hid (Turned T en g A c h sx w wr) ∧ Hid (Mv (ktOf T) s sx) ∧ Hid (nn + n ≤ T.length + 1) ∧ Hid (if m then countsP (ktOf T) n l sx = R ∧ T.length + 1 ≤ sx.at_ + n else R = (l, sx)))
      case atStart => exact ⟨true, [], s4, 0, rfl, R8, Lib.hid ⟨List.Pairwise.nil, fun p hp => nomatch hp⟩, HMC8, HT8, HM4, Lib.hid (by omega), Lib.hid ⟨HRE.out.symm, by omega⟩⟩
      case round =>
        obtain ⟨m, l, sx, nn, rfl, hR, hC, hMC, hT, hM, hln, hsp⟩ := hrel
        cases m with
        | false =>
          have HRZ := Lib.hid (show R = (l, sx) from hsp.out)
          go_wp2
          go_meet
          rw [HRZ.out]
          exact ⟨nn, hC, hMC, Lib.hid (by have := hln.out; omega), hR, hT, hM⟩
        | true =>
          obtain ⟨hsp1, hsp2⟩ := hsp.out
          obtain ⟨n, rfl⟩ : ∃ n, gk = n + 1 := ⟨gk - 1, by have := hT.out.1.at_; omega⟩
          obtain ⟨V, hV⟩ : ∃ y, y = numbV (ktOf T) sx := ⟨_, rfl⟩
          obtain ⟨sn, hsn⟩ : ∃ y, y = numbS (ktOf T) sx := ⟨_, rfl⟩
          obtain ⟨kk, hkk⟩ : ∃ y, y = starV (ktOf T) sn := ⟨_, rfl⟩
          obtain ⟨sz, hsz⟩ : ∃ y, y = starS (ktOf T) sn := ⟨_, rfl⟩
          have HMn := Lib.hid (show Mv (ktOf T) s sn by rw [hsn]; exact hM.out.trans (mv_number _))
          have HMz := Lib.hid (show Mv (ktOf T) s sz by rw [hsz]; exact HMn.out.trans (mv_star _))
          have hat : sx.at_ ≤ sz.at_ := by rw [hsz, hsn]; exact Nat.le_trans (mv_number (K := (ktOf T)) sx).le (mv_star _).le
          have HV := Lib.hid (show I64 V by rw [hV]; have := numb_lo (ktOf T) sx; unfold I64; omega)
          have HKK := Lib.hid (show 0 ≤ kk ∧ kk ≤ 9223372036854775807 by rw [hkk]; exact starV_lo _ _)
          have CN := Lib.hid (fun W (hW : PAt T en g A c h sx W) => (show Calls Tryz.prog 120 #[.pointer (some ⟨g, 0, none⟩)] W fun e w' => e = .returned (.int .i64 V) ∧ Turned T en g A c h sn W w' by rw [hV, hsn]; exact pa_number W (Lib.hid hW)))
          have CC := Lib.hid (fun W (hW : PAt T en g A c h sz W) => pa_take ⟨#[44]⟩ (by decide) W (Lib.hid hW))
          have CX := Lib.hid (fun W (hW : PAt T en g A c h sn W) => pa_take ⟨#[42]⟩ (by decide) W (Lib.hid hW))
          have XT := Lib.hid (fun e => take_true (x := ⟨#[42]⟩) (K := (ktOf T)) (s := sn) e)
          have XF := Lib.hid (fun e => take_false (x := ⟨#[42]⟩) (K := (ktOf T)) (s := sn) e)
          rw [starV] at hkk
          rw [starS] at hsz
          rw [countsP, ← hV, ← hsn] at hsp1
          have e1 : starV (ktOf T) sn = kk := by rw [starV]; exact hkk.symm
          have e2 : starS (ktOf T) sn = sz := by rw [starS]; exact hsz.symm
          simp only [e1, e2] at hsp1
          clear e1 e2
          obtain ⟨tx, htx⟩ : ∃ y, y = takeB (ktOf T) ⟨#[42]⟩ sn := ⟨_, rfl⟩
          obtain ⟨sp, hsp'⟩ : ∃ y, y = takeP (ktOf T) ⟨#[42]⟩ sn := ⟨_, rfl⟩
          rw [← htx] at CX XT XF hkk hsz
          rw [← hsp'] at CX XT XF
          obtain ⟨tk, htk⟩ : ∃ y, y = takeB (ktOf T) ⟨#[44]⟩ sz := ⟨_, rfl⟩
          obtain ⟨sk, hsk⟩ : ∃ y, y = takeP (ktOf T) ⟨#[44]⟩ sz := ⟨_, rfl⟩
          rw [← htk] at CC hsp1
          rw [← hsk] at CC
          have HMK := Lib.hid (show Mv (ktOf T) s sk by rw [hsk]; exact HMz.out.trans (mv_take (by decide) _))
          have HNX := Lib.hid (show if tk then countsP (ktOf T) n (bumpC V kk l) sk = R ∧ T.length + 1 ≤ sk.at_ + n else R = (bumpC V kk l, sk) by
            cases tk with
            | true =>
              have e : sk = stepP sz := by rw [hsk]; exact take_true htk.symm
              rw [e]
              refine ⟨hsp1, ?_⟩
              have : (stepP sz).at_ = sz.at_ + 1 := rfl
              omega
            | false =>
              have e : sk = sz := by rw [hsk]; exact take_false htk.symm
              rw [e]
              exact hsp1.symm)
          have HKE := Lib.hid hkk
          have HSE := Lib.hid hsz
          clear hV hsn hkk hsz htk hsk hsp1 hsp2 hat htx hsp' hsp
          go_wp2_with fail
          refine (CN.out _ hT.out.1).mono ?_
          rintro e w9 ⟨rfl, hS⟩
          have R9 := Lib.hid (row_keep hR.out hS.2 HN2.out)
          have HT9 := Lib.hid (hT.out.then_ hS)
          have HMC9 := Lib.hid (hMC.out.keep hS.2 HMG.out)
          clear hS hR hT hMC
          go_wp2_with fail
          refine (CX.out _ HT9.out.1).mono ?_
          rintro e w10 ⟨rfl, hS⟩
          have R10 := Lib.hid (row_keep R9.out hS.2 HN2.out)
          have HT10 := Lib.hid (HT9.out.then_ hS)
          have HMC10 := Lib.hid (HMC9.out.keep hS.2 HMG.out)
          clear hS R9 HT9 HMC9
          go_upto_if 31 with fail
          go_cut [6] (fun s6 wx => s6 = .int .i64 kk ∧ Hid (MapC wx mb nn l) ∧ Hid (wx.heap[g2]? = some (.cells #[.string nm, .int .i64 kv, .slice none 0 0] 66 (0, 0))) ∧ Hid (Turned T en g A c h sz w wx))
          case first =>
            cases tx with
            | true =>
              rw [if_pos rfl] at HKE HSE
              rw [XT.out rfl] at HT10
              go_wp2_with fail
              refine (pa_number _ (Lib.hid HT10.out.1)).mono ?_
              rintro e w11 ⟨rfl, hS⟩
              have R11 := Lib.hid (row_keep R10.out hS.2 HN2.out)
              have HT11 := Lib.hid (HT10.out.then_ hS)
              have HMC11 := Lib.hid (HMC10.out.keep hS.2 HMG.out)
              clear hS
              go_wp2
              go_meet
              refine ⟨by rw [HKE.out], HMC11, R11, ?_⟩
              rw [HSE.out]; exact HT11
            | false =>
              rw [if_neg (by decide)] at HKE HSE
              rw [XF.out rfl] at HT10
              go_wp2
              go_meet
              refine ⟨by rw [HKE.out], HMC10, R10, ?_⟩
              rw [HSE.out]; exact HT10
          case rest =>
            obtain ⟨e6, hMx, hRx, hTx⟩ := hcut
            subst e6
            obtain ⟨D, hown, hg⟩ := hMx.out
            have lk := (look_g hown hg HV.out).1
            have hGB := hC.out.get V
            have hGN := Lib.hid (show MapC wc mb nn l from ⟨D, hown, hg⟩)
            have HGD := Lib.hid (getD_bump hg hown.isMap hC.out.1 V kk)
            have HCB := Lib.hid (hC.out.bump (m := V) HKK.out.1)
            have HOWN := Lib.hid hown
            have hnx := Lib.hid (show nn < 1000000000000 by have := hln.out; have := HTS.out; omega)
            obtain ⟨u, hu⟩ : ∃ u, u = getM l V := ⟨_, rfl⟩
            rw [← hu] at lk hGB HGD
            have hkk := HKK.out
            have HM1 : I64 (1048576 - u) := by unfold I64; omega
            have HX2 := Lib.hid (show I64 (u + min kk (1048576 - u)) by unfold I64; omega)
            clear hu hown hg
            go_wp2_with (first
              | (at_mapUpdate; refine wpList_mapUpdate_own _ rfl _ _ _ 160 rfl 3 3 keyI Tryz.underlying160 _ mb _ _ rfl HOWN.out (by have := hnx.out; unfold maxLen; omega) _ _ _ rfl rfl (keyOfI HV.out) _ [] (plainElem_int Tryz.underlying3 (wf64 HX2.out)) ?_; intro w11 hout2 hg2; go_frame))
            have a11 := (AgH.refl (only mb) wc).grown hg2 fun k e _ => by injection e with e; exact e.symm
            have HMC11 := Lib.hid (show MapC w11 mb (nn + 1) (bumpC V kk l) from ⟨_, hout2, HGD.out⟩)
            have R11 := Lib.hid (row_keep' hRx.out a11 (fun e => HMN.out e.symm))
            have HT11 := Lib.hid (Turned.out hp.out (Below.refl _ _) hTx.out HMz.out.vars (a11.mono fun k _ e => by rw [show k = mb from e]; exact ⟨HMB.out, HMG.out⟩))
            clear hout2 hg2 a11 HOWN HGD lk hGN hRx hTx hMx
            refine (CC.out w11 HT11.out.1).mono ?_
            rintro e w12 ⟨rfl, hS⟩
            have R12 := Lib.hid (row_keep R11.out hS.2 HN2.out)
            have HT12 := Lib.hid (HT11.out.then_ hS)
            have HMC12 := Lib.hid (HMC11.out.keep hS.2 HMG.out)
            clear hS
            go_wp2_with fail
            go_roundg n
            case measure => omega
            case rel => exact ⟨tk, bumpC V kk l, sk, nn + 1, rfl, R12, HCB, HMC12, HT12, HMK, Lib.hid (by have := hln.out; omega), HNX⟩
  case rest =>
    obtain ⟨nn, hC, hMC, hnn, hR2, hT, hM⟩ := hcut
    obtain ⟨D, hown, hg⟩ := hMC.out
    go_wp2_with fail
    refine (keys_call (some mb) wc).mono ?_
    rintro e w9 ⟨rfl, rfl⟩
    go_wp2_with fail
    refine (sorted_row mb nn D wc hown (by have := hnn.out; have := HTS.out; omega)).mono ?_
    rintro e w10 ⟨Ak, ck, KK, rfl, hK1, hK2, hK3, hKO, hb⟩
    have hB2 : Below wc.heap.size wc w10 := below_then (alrB wc _) (hb.mono (by rw [World.size_alloc]; omega))
    have own10 : OwnI w10 mb nn D := by
      obtain ⟨es, cl, h1, h2⟩ := hown
      exact ⟨es, cl, by rw [hB2.block mb (Array.getElem?_eq_some_iff.1 h1).1]; exact h1, h2⟩
    have hKL : KK.length ≤ nn := by
      have h2 : KK.Nodup := by unfold List.Nodup; exact hK1.imp fun h e => by omega
      have h3 : KK ⊆ intKeys D := fun x hx => (intKeys_mem hown x).2 ((hK2 x).1 hx)
      exact Nat.le_trans (List.Nodup.length_le_of_subset h2 h3) (intKeys_len hown)
    have HRO := Lib.hid (rows_of hC.out.1 hK1 hK2 hg)
    have HCG := Lib.hid (fun k => hC.out.get k)
    obtain ⟨gg, hgg⟩ : ∃ y, y = getM R.1 := ⟨_, rfl⟩
    rw [← hgg] at hg HRO HCG
    have HT10 := Lib.hid (hT.out.below hB2)
    have R10 := Lib.hid (row_keep' (H := fun _ => False) hR2.out (AgH.of_below hB2) (fun e => e))
    have HGC := Lib.hid (show g2 < wc.heap.size from (Array.getElem?_eq_some_iff.1 hR2.out).1)
    have HGT := Lib.hid (show g2 < w10.heap.size by have := HGC.out; have := hB2.size; omega)
    have HO10 := Lib.hid own10
    have HG10 := Lib.hid hg
    have HK3 := Lib.hid hK3
    have HKO := Lib.hid hKO
    rw [World.size_alloc] at HKO
    have HKN := Lib.hid (fun i (e : (Value.slice Ak KK.length ck).ownBlock = some i) => (show i ≠ g2 by have := (HKO.out.lt i e).1; have := HGC.out; omega))
    obtain ⟨m, hm⟩ : ∃ m, m = KK.length := ⟨_, rfl⟩
    have HM9 := Lib.hid hm
    have HKL := Lib.hid (show m ≤ T.length + 1 by rw [hm]; have := hnn.out; omega)
    rw [← hm]
    rw [← hm] at HKO HKN
    clear hB2 own10 hKL hgg hg hown hT hR2 hK1 hK2 hK3 hKO hb hm hC hMC hnn
    go_wp2_with fail
    go_loopw [8, 48] (fun _ v wr => ∃ (k j : Nat) (A' : Option Addr) (c' : Nat), k ≤ m ∧ v = .int .i64 (k : Int) ∧ j ≤ k ∧ Hid (j = (rowsOf (KK.take k) gg).length) ∧ Hid (wr.heap[g2]? = some (.cells #[.string nm, .int .i64 kv, .slice A' j c'] 66 (0, 0))) ∧ Hid (wr.ownsRow w10.heap.size 67 2 (.slice A' j c') j (pairCells (rowsOf (KK.take k) gg))) ∧ Hid (AgH (only g2) w10 wr)) (fun _ v _ => m - (RowKit.intOf v).toNat)
    case atStart => exact ⟨0, 0, none, 0, by omega, rfl, by omega, Lib.hid rfl, R10, Lib.hid (World.ownsRow_nil _ _ _ _), Lib.hid (AgH.refl _ _)⟩
    case round =>
      obtain ⟨k, j, A', c', hk, rfl, hjk, hj, hR, hO, hA⟩ := hrel
      have HKW := Lib.hid (own_keep HKO.out hA.out fun i hi e => HKN.out i hi e)
      by_cases hlt : k < m
      · obtain ⟨b1, o1, rfl, c1⟩ := (Sl.of_own HKW.out).int_at hlt
        obtain ⟨x, hx⟩ : ∃ x, x = KK.getD k 0 := ⟨_, rfl⟩
        rw [← hx] at c1
        have hts : KK.take (k + 1) = KK.take k ++ [x] := by rw [hx]; exact take_snocI (by rw [← HM9.out]; exact hlt)
        have hrs := rowsOf_snoc (KK.take k) gg x
        rw [← hts] at hrs
        have hxi : I64 x := HK3.out x (by rw [hx, List.getD, List.getElem?_eq_getElem (by rw [← HM9.out]; exact hlt)]; exact List.getElem_mem _)
        have hOw : OwnI wr mb nn D := by
          obtain ⟨es, cl, h1, h2⟩ := HO10.out
          exact ⟨es, cl, by rw [hA.out.block mb (Array.getElem?_eq_some_iff.1 h1).1 (fun e => HMN.out e)]; exact h1, h2⟩
        have lk := (look_g hOw HG10.out hxi).1
        obtain ⟨v, hv⟩ : ∃ v, v = gg x := ⟨_, rfl⟩
        rw [← hv] at lk hrs
        have hlt2 : (k : Int) < (m : Int) := by omega
        have hk0 : (0 : Int) ≤ (k : Int) := by omega
        have hsz := hA.out.size
        have hml := HKL.out
        have hT5 := HTS.out
        have HGW := Lib.hid (show g2 < wr.heap.size from (Array.getElem?_eq_some_iff.1 hR.out).1)
        clear hx hts hxi hOw hv
        by_cases h0 : 0 < v
        · rw [if_pos h0] at hrs
          have HRS := Lib.hid hrs
          clear hrs
          have hone := Lib.hid (show ∀ u ∈ [Value.int .i64 x, .int .i64 v], u.oneCell' = true by
            intro u hu
            simp only [List.mem_cons, List.not_mem_nil, or_false] at hu
            rcases hu with rfl | rfl <;> rfl)
          have q2 : wr.cell? ⟨g2, 2, none⟩ = some (.slice A' j c') := row_cell hR.out 2 _ rfl
          have hjn := Lib.hid hj.out
          go_wp2_with (at_builtin; refine wpList_append_sl pairs_ty rfl (.tmp 57) (.tmp 63) rfl w10.heap.size rfl (by exact (hO.out.alloc _)) rfl (by exact Sl.new _ _ [Value.int .i64 x, .int .i64 v] 1 2 rfl (by omega)) hone.out (by omega) (by omega) (by simp; omega) ?_; intro v4 w4 hown4 hg4 hat4; obtain ⟨A4, c4, rfl, _, _⟩ := own_form hown4; have HO4 := Lib.hid hown4; have HA4 := Lib.hid (((AgH.refl (fun i => (Value.slice A' j c').ownBlock = some i) _).alloc _).grown hg4 fun i e _ => e); have ho4 := row_keep' hR.out HA4.out (fun e => by have := (hO.out.lt g2 e).1; have := HGT.out; omega); have HR4 := Lib.hid ho4; have o4 : w4.cell? ⟨g2, 2, none⟩ = some (.slice A' j c') := row_cell ho4 2 _ rfl; have f4 : w4.frozen? ⟨g2, 2, none⟩ = false := frozen_row ho4; clear hown4 hg4 hat4 lk c1 ho4)
          go_roundw
          case rel =>
            refine ⟨k + 1, j + 1, A4, c4, by omega, by go_num, by omega, ?_, Lib.hid (row_set HR4.out rfl), ?_, ?_⟩
            · refine Lib.hid ?_
              show j + 1 = _
              rw [HRS.out, List.length_append, ← hj.out]; rfl
            · refine Lib.hid ?_
              rw [HRS.out, pairCells_app]
              exact own_keep (H := only g2) HO4.out ((AgH.refl (only g2) _).setCell (p := ⟨g2, 2, none⟩) (.inl rfl) _) fun i e e2 => by have := (HO4.out.lt i e).1; rw [show i = g2 from e2] at this; have := HGT.out; omega
            · exact Lib.hid (hA.out.then_ ((HA4.out.mono (H' := fun i => (Value.slice A' j c').ownBlock = some i ∨ i = g2) fun i _ e => .inl e).setCell (p := ⟨g2, 2, none⟩) (.inl (.inr rfl)) _) fun i hi e => by
                rcases e with e | e
                · have := (hO.out.lt i e).1; omega
                · exact e)
          case measure => simp [RowKit.intOf]; omega
        · rw [if_neg h0, List.append_nil] at hrs
          have HRS := Lib.hid hrs
          clear hrs
          go_wp2
          go_roundw
          case rel =>
            refine ⟨k + 1, j, A', c', by omega, by go_num, by omega, ?_, hR, ?_, hA⟩
            · rw [HRS.out]; exact hj
            · rw [HRS.out]; exact hO
          case measure => simp [RowKit.intOf]; omega
      · have e1 : KK.take k = KK := List.take_of_length_le (by rw [← HM9.out]; omega)
        have h8 := hj.out
        have h9 := hO.out
        rw [e1, HRO.out] at h8 h9
        have HJ := Lib.hid h8
        have HO9 := Lib.hid h9
        have HTw := Lib.hid (Turned.out hp.out (Below.refl _ _) HT10.out hM.out.vars (hA.out.mono fun i _ e => by rw [show i = g2 from e]; exact ⟨HG2.out, HN2.out⟩))
        obtain ⟨pk, hpk⟩ : ∃ y, y = (⟨⟨nm, kv, R.1.filter fun q => decide (0 < q.2)⟩, A', j, c'⟩ : PlV) := ⟨_, rfl⟩
        have HPK := Lib.hid (show pk.p = ⟨nm, kv, R.1.filter fun q => decide (0 < q.2)⟩ by rw [hpk])
        have HPC := Lib.hid (show pk.cells = [.string nm, .int .i64 kv, .slice A' j c'] by rw [hpk]; rfl)
        have HH := Lib.hid (show HeldH (NX base g h) wr pk.at_ by
          have h1 := held_own (H := NX base g h) HO9.out fun i hi e => by
            have hi2 := (HO9.out.lt i hi).1
            have hs := HT10.out.2.size
            have := HGL.out
            have := hN.out.lb
            rcases e with e | e | e | e | e | e
            · omega
            · omega
            · have := (hN.out.lt1 e).2; omega
            · have := (hN.out.lt2 e).2; omega
            · have := (hN.out.lt3 e).2; omega
            · have := (hN.out.lt4 e).2; omega
          intro W a
          rw [hpk]
          refine ⟨h1 W a, HKV.out, fun q hq => ?_⟩
          rw [← HRO.out] at hq
          unfold rowsOf at hq
          obtain ⟨x, hx, rfl⟩ := List.mem_map.1 hq
          have hx1 := HK3.out x (List.mem_filter.1 hx).1
          have hx2 := HCG.out x
          exact ⟨hx1, by unfold I64; simp only; omega⟩)
        clear hpk h8 h9 e1
        go_wp2_with fail
        refine (CZ.out _ HTw.out.1).mono ?_
        rintro e w18 ⟨rfl, hT8⟩
        have HT8 := Lib.hid (HTw.out.then_ hT8)
        have HMZ := Lib.hid (show Mv (ktOf T) s z by rw [HZ.out]; exact hM.out.trans (mv_want (by decide) _))
        have N8 := hN.out.turn HT8.out HMZ.out
        have N8d : Hid (NAt T en g A c base h L1 L2 L3 z w18.drew) := Lib.hid (N8.turn (turned_below N8.pat (below_drewN' (Below.refl _ w18) 1)) (Mv.refl _))
        have HX8 : Hid (HeldH (NX base g h) w18.drew pk.at_) := Lib.hid ((HH.out.keep hT8.2 fun i _ e => .inr (.inl e)).keep (H' := fun _ => False) (AgH.of_below (below_drewN' (Below.refl _ w18) 1)) fun _ _ e => e.elim)
        have R18 := row_keep hR.out hT8.2 HN2.out
        have HLB := Lib.hid N8.lb
        have HLL := Lib.hid (show L2.length ≤ 1000000 by have := hb.out.2; rw [hN.out.e2, List.length_map] at this; exact this)
        have b5 := N8.blk.c6
        have fb := N8.blk.froz 6
        have HOW := Lib.hid N8.r2.own
        have HGB := Lib.hid N8.gb
        have hl5 : h.n2 = L2.length := by
          obtain ⟨A9, c9, e9, _⟩ := own_form HOW.out
          injection e9
        have HL5 := Lib.hid hl5
        have c0 : w18.cell? ⟨g2, 0, none⟩ = some (.string nm) := row_cell R18 0 _ rfl
        have c1 : w18.cell? ⟨g2, 1, none⟩ = some (.int .i64 kv) := row_cell R18 1 _ rfl
        have c2 : w18.cell? ⟨g2, 2, none⟩ = some (.slice A' j c') := row_cell R18 2 _ rfl
        have b5a := fun o => cell_kept (alrB w18 o) b5
        clear hT8 N8 R18 hl5
        go_wp2_with fail
        go_region_law (first
          | (refine step_append_sl pls_ty rfl (.tmp 74) (.tmp 76) rfl base rfl (by first | exact own_drew (HOW.out.alloc _) | exact (own_drew HOW.out).alloc _ | exact HOW.out.alloc _) rfl (by exact Sl.new _ _ [.string nm, .int .i64 kv, .slice A' j c'] 1 3 rfl (by omega)) (by intro u hu; simp only [List.mem_cons, List.not_mem_nil, or_false] at hu; rcases hu with rfl | rfl | rfl <;> rfl) (by have := HLL.out; omega) (by have := HLL.out; omega) (by have := HLB.out; simp; omega) ?_; intro v9 w19 hown9 hg9 hat9; obtain ⟨A4, c4, rfl, _, _⟩ := own_form hown9
             have P9 := (N8d.out.blk.below (alrB _ _)).keep ((AgH.refl _ _).grown (H := fun i => h.V2.ownBlock = some i) hg9 fun i e _ => e) N8d.out.ne2
             have o9 := P9.c6
             have f9 := P9.froz 6
             have HST := Lib.hid (N8d.out.push2 _ pk HX8.out (by rw [HPC.out]; exact hown9) hg9 hat9)
             clear hown9 hg9 hat9 P9))
        all_goals
          go_wp2
          refine bodyPost_end (results_none rfl _ _ _) rfl ⟨rfl, ?_⟩
          obtain ⟨N9, a9, sub9⟩ := HST.out
          rw [HPK.out] at N9
          rw [HCS.out]
          refine ⟨_, _, _, _, N9, ?_, ?_⟩
          · exact (((HT8.out.2.mono fun _ _ e => .inl e).trans (AgH.of_below (below_drewN' (Below.refl _ w18) 1)))).trans a9
          · exact fun i hi e => sub9 i (Nat.lt_of_lt_of_le hi HT8.out.2.size) e
end
end Go.Proofs.YtkpjhjoopdbkaaaGreatDoor
namespace Go.Proofs.YtkpjhjoopdbkaaaGreatDoor
open Go.RowKit
def onceL : List ByteArray := [⟨#[119, 104, 101, 110]⟩, ⟨#[106, 111, 105, 110]⟩, ⟨#[115, 112, 108, 105, 116]⟩, ⟨#[97, 102, 116, 101, 114]⟩, ⟨#[109, 97, 110, 121]⟩]
set_option maxHeartbeats 1000000 in
theorem pa_once (x : ByteArray) (w : World) : Calls Tryz.prog 170 #[.string x] w fun e w' => e = .returned (.bool (isOnce x)) ∧ Below w.heap.size w w' := by
  have hc : ∀ j, j < onceL.length → (w.alloc (.cells #[.string ⟨#[119, 104, 101, 110]⟩, .string ⟨#[106, 111, 105, 110]⟩, .string ⟨#[115, 112, 108, 105, 116]⟩, .string ⟨#[97, 102, 116, 101, 114]⟩, .string ⟨#[109, 97, 110, 121]⟩] 9)).cell? ⟨w.heap.size, 0 + j, none⟩ = some (.string (onceL.getD j ByteArray.empty)) := by
    intro j hj
    rw [cell_of_row _ _ _ _ _ _ (heap_alloc_new w _)]
    match j, hj with
    | 0, _ => rfl
    | 1, _ => rfl
    | 2, _ => rfl
    | 3, _ => rfl
    | 4, _ => rfl
  have HC := Lib.hid (Tryz.slices_Contains_string w.heap.size 0 5 5 onceL x (w.alloc (.cells #[.string ⟨#[119, 104, 101, 110]⟩, .string ⟨#[106, 111, 105, 110]⟩, .string ⟨#[115, 112, 108, 105, 116]⟩, .string ⟨#[97, 102, 116, 101, 114]⟩, .string ⟨#[109, 97, 110, 121]⟩] 9)) (by decide) (by decide) hc)
  have HR := Lib.hid (show Lib.containsS (onceL.take 5) x = isOnce x from rfl)
  clear hc
  go_enter Tryz.func170, Tryz.ntmps170
  go_wp2_with fail
  refine HC.out.mono ?_
  rintro e w2 ⟨rfl, rfl⟩
  go_wp2
  go_ret
  exact ⟨ret1b HR.out, alrB w _⟩
end Go.Proofs.YtkpjhjoopdbkaaaGreatDoor
