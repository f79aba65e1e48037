/- Joined: Package parse: Net. Printed by gen_pbM.py. Plain law of package token: what is left of a text, cut into tokens. -/
import Derived.Test.YtkpjhjoopdbkaaaGreatDoorG21
import Derived.Test.YtkpjhjoopdbkaaaGreatDoorG22
import Derived.Test.YtkpjhjoopdbkaaaGreatDoorG06
namespace Go.Proofs.YtkpjhjoopdbkaaaGreatDoor
open Go.RowKit
section
variable {T : List Tok} {en : Int} {g : Nat} {A : Option Addr} {c base : Nat} {h : Hs} {L1 : List ColV} {L2 : List PlV} {L3 : List TkV} {s : Ps} {w W : World}
/-- The net that is read. -/
def ntOf (s : Ps) : Nt := ⟨s.cols, s.pls, s.tks, s.from_, s.to_⟩
def Nt.zero : Nt := ⟨[], [], [], 0, 0⟩
theorem NAt.netAt (N : NAt T en g A c base h L1 L2 L3 s w) : HeldH (fun i => i < base) w fun W => NetAt W h.A1 h.n1 h.c1 h.A2 h.n2 h.c2 h.A3 h.n3 h.c3 (ntOf s) := by
  intro W a
  refine ⟨?_, ?_, ?_, N.i4, N.i5⟩
  · have r := N.r1.keep a fun i _ e => ⟨.inl e, fun q => by have := (N.lt1 q).1; omega⟩
    have := cols_of r rfl
    show Cols W h.A1 h.n1 h.c1 s.cols
    rw [N.e1]; exact this
  · have r := N.r2.keep a fun i _ e => ⟨.inl e, fun q => by have := (N.lt2 q).1; omega⟩
    have := pls_of r rfl
    show SlOf 3 PlAt W h.A2 h.n2 h.c2 s.pls
    rw [N.e2]; exact this
  · have r := N.r3.keep a fun i _ e => ⟨.inl e, fun q => by have := (N.lt3 q).1; omega⟩
    have := tks_of r rfl
    show SlOf 14 TkAt W h.A3 h.n3 h.c3 s.tks
    rw [N.e3]; exact this
/-- What Net tells. -/
def netAll (T : List Tok) (en : Int) : Nt × Int × Int := if (netP (ktOf T)).err = 0 then (ntOf (netP (ktOf T)), en, 0) else (Nt.zero, placeT T en (netP (ktOf T)), (netP (ktOf T)).err)
def NetAns (r : Nt × Int × Int) (w : World) (e : Ending) (w' : World) : Prop :=
  ∃ A1 n1 c1 A2 n2 c2 A3 n3 c3, e = .returned (.tuple #[netV A1 n1 c1 A2 n2 c2 A3 n3 c3 r.1.from_ r.1.to_, .int .i64 r.2.1, .int .i64 r.2.2]) ∧ (HeldH (under w.heap.size) w' fun W => NetAt W A1 n1 c1 A2 n2 c2 A3 n3 c3 r.1) ∧ Below w.heap.size w w'
theorem NetAt.zero (w : World) : NetAt w none 0 0 none 0 0 none 0 0 Nt.zero :=
  ⟨⟨Nat.le_refl _, by omega, rfl, fun h => absurd h (by omega)⟩, SlOf.none_ _ _ _, SlOf.none_ _ _ _, by show I64 0; unfold I64; omega, by show I64 0; unfold I64; omega⟩
def Hs.zero : Hs := ⟨none, 0, 0, none, 0, 0, none, 0, 0, 0, 0, none, 0, 0⟩
theorem NTurn.start (N : NAt T en g A c base h L1 L2 L3 s w) : NTurn T en g A c base h s w w := ⟨h, L1, L2, L3, N, AgH.refl _ _, fun _ _ e => e⟩
theorem told_nt {K : List Kt} {s : Ps} : ntOf (toldS K s) = ntOf s := by
  unfold toldS
  split
  · unfold wrongP
    split <;> rfl
  · rfl
theorem NTurn.on {h1 : Hs} {M1 : List ColV} {M2 : List PlV} {M3 : List TkV} {s1 s2 : Ps} {w1 w2 : World} (_ : NAt T en g A c base h1 M1 M2 M3 s1 w1) (a : AgH (NH g h) w w1) (sub : ∀ i, i < w.heap.size → NH g h1 i → NH g h i) (k : NTurn T en g A c base h1 s2 w1 w2) : NTurn T en g A c base h s2 w w2 := by
  obtain ⟨h2, P1, P2, P3, N2, a2, sub2⟩ := k
  exact ⟨h2, P1, P2, P3, N2, a.then_ a2 sub, fun i hi e => sub i hi (sub2 i (Nat.lt_of_lt_of_le hi a.size) e)⟩
set_option maxRecDepth 100000 in
set_option maxHeartbeats 16000000 in
theorem pa_Net (w : World) (hT : Hid (TokS T)) (ht : Hid (TabOk w)) (hA : Hid (Sl w (.slice A T.length c) T.length 3 (toksCells T))) :
    Calls Tryz.prog 31 #[.slice A T.length c, .int .i64 en] w (NetAns (netAll T en) w) := by
  obtain ⟨w1, hw1⟩ : ∃ y, y = (w.alloc (.cells #[.slice none 0 0, .slice none 0 0, .slice none 0 0, .int .i64 0, .int .i64 0] 39)).alloc (.cells #[.slice A T.length c, .int .i64 0, .int .i64 en, .int .i64 0, .int .i64 0, .slice none 0 0, .slice none 0 0, .slice none 0 0, .int .i64 0, .int .i64 0, .slice none 0 0] 75) := ⟨_, rfl⟩
  have HB1 := Lib.hid (show Below w.heap.size w w1 by rw [hw1]; exact below_then (alrB w _) (alrB _ _))
  have hsz : (w.alloc (.cells #[.slice none 0 0, .slice none 0 0, .slice none 0 0, .int .i64 0, .int .i64 0] 39)).heap.size = w.heap.size + 1 := World.size_alloc _ _
  have R1 := Lib.hid (show w1.heap[w.heap.size]? = some (.cells #[.slice none 0 0, .slice none 0 0, .slice none 0 0, .int .i64 0, .int .i64 0] 39 (0, 0)) by rw [hw1]; exact row_alloc (heap_alloc_new w _) _)
  have RP := Lib.hid (show w1.heap[w.heap.size + 1]? = some (.cells #[.slice A T.length c, .int .i64 0, .int .i64 en, .int .i64 0, .int .i64 0, .slice none 0 0, .slice none 0 0, .slice none 0 0, .int .i64 0, .int .i64 0, .slice none 0 0] 75 (0, 0)) by rw [hw1, ← hsz]; exact heap_alloc_new _ _)
  have hl1 : w1.heap.size = w.heap.size + 2 := by rw [hw1, World.size_alloc, hsz]
  have HN1 : Hid (NAt T en (w.heap.size + 1) A c w1.heap.size Hs.zero [] [] [] Ps.zero w1) := Lib.hid (by
    have nb : ∀ i, i < w.heap.size → ¬ NH (w.heap.size + 1) Hs.zero i := fun i hi e => by
      rcases e with e | e | e | e | e
      · omega
      all_goals cases e
    refine ⟨RP.out, Nat.zero_le _, hT.out, by omega, Nat.le_refl _, ?_, ?_, rfl, rfl, rfl, rfl, rfl, OwnR.nil, OwnR.nil, OwnR.nil, World.ownsRow_nil _ _ _ _, (fun i e => by cases e), (fun i e => by cases e), (fun i e => by cases e), (fun i e => by cases e), (fun i e => by cases e), (fun i e => by cases e), by show I64 0; unfold I64; omega, by show I64 0; unfold I64; omega⟩
    · exact HeldH.of_below (B := w.heap.size) (by omega) nb fun W hW => hA.out.below (HB1.out.trans hW)
    · exact HeldH.of_below (B := w.heap.size) (by omega) nb fun W hW => ht.out.below (HB1.out.trans hW))
  have HW := Lib.hid hw1.symm
  obtain ⟨gr, hgr⟩ : ∃ y, y = w.heap.size := ⟨_, rfl⟩
  have HG := Lib.hid hgr.symm
  rw [← hgr] at R1 HN1
  have HL1 := Lib.hid hl1
  have HSM := Lib.hid hT.out.len
  obtain ⟨S1, hS1⟩ : ∃ y, y = declsP (ktOf T) (T.length + 1) Ps.zero := ⟨_, rfl⟩
  have HS1 := Lib.hid hS1.symm
  have HAL := Lib.hid (show netAll T en = if (toldS (ktOf T) (endsP (ktOf T) S1)).err = 0 then (ntOf (toldS (ktOf T) (endsP (ktOf T) S1)), en, 0) else (Nt.zero, placeT T en (toldS (ktOf T) (endsP (ktOf T) S1)), (toldS (ktOf T) (endsP (ktOf T) S1)).err) by rw [hS1, ← ktOf_len]; rfl)
  obtain ⟨Z, hZ⟩ : ∃ Z, Z = netAll T en := ⟨_, rfl⟩
  rw [← hZ] at HAL ⊢
  clear RP hsz hw1 hl1 hgr hS1 hZ
  go_enter Tryz.func31, Tryz.ntmps31
  go_upto_block 0 with fail
  rw [HW.out, HG.out]
  go_cut [] (fun wx => Hid (NTurn T en (gr + 1) A c w1.heap.size Hs.zero S1 w1 wx) ∧ Hid (NtB S1))
  case first =>
    go_wp2_with fail
    go_loopg [] (T.length + 1) (fun n wr => ∃ sx : Ps, Hid (NTurn T en (gr + 1) A c w1.heap.size Hs.zero sx w1 wr) ∧ Hid (NtB sx) ∧ Hid (declsP (ktOf T) n sx = S1) ∧ Hid (sx.err = 0 → T.length + 1 ≤ sx.at_ + n))
    case atStart => exact ⟨Ps.zero, Lib.hid (NTurn.start HN1.out), Lib.hid ⟨Nat.zero_le _, Nat.zero_le _, Nat.zero_le _⟩, HS1, Lib.hid fun _ => by omega⟩
    case round =>
      obtain ⟨sx, hI, hB, hDn, hn⟩ := hrel
      obtain ⟨h1, M1, M2, M3, N1, a1, sub1⟩ := hI.out
      have HN := Lib.hid N1
      have HA := Lib.hid a1
      have HSB := Lib.hid sub1
      have c3 := N1.blk.c3
      clear N1 a1 sub1
      by_cases he : sx.err = 0
      · have z1 : (sx.err == 0) = true := by simpa using he
        have CT := Lib.hid (pa_take ⟨#[102, 114, 111, 109]⟩ (by decide) wr (Lib.hid HN.out.pat))
        have HAT := Lib.hid HN.out.at_
        have hn1 := hn.out he
        obtain ⟨n, rfl⟩ : ∃ n, gk = n + 1 := ⟨gk - 1, by have := HAT.out; omega⟩
        rcases htb : takeB (ktOf T) ⟨#[102, 114, 111, 109]⟩ sx with _ | _
        · rw [htb, show takeP (ktOf T) ⟨#[102, 114, 111, 109]⟩ sx = sx from take_false htb] at CT
          have HDo := Lib.hid ((decls_one n sx he htb).symm.trans hDn.out)
          have HGG := Lib.hid (part_goes (K := (ktOf T)) sx hB.out)
          have HNX := Lib.hid (show (partS (ktOf T) sx).err = 0 → T.length + 1 ≤ (partS (ktOf T) sx).at_ + n from fun e => by
            rcases HGG.out.2 with q | q
            · exact absurd e q
            · omega)
          have HPS := Lib.hid (show partS (ktOf T) sx = if takeB (ktOf T) ⟨#[99, 111, 108, 111, 117, 114]⟩ sx then colourS (ktOf T) (stepP sx) else if takeB (ktOf T) ⟨#[112, 108, 97, 99, 101]⟩ sx then placeS (ktOf T) (stepP sx) else if takeB (ktOf T) ⟨#[116, 97, 115, 107]⟩ sx then taskS (ktOf T) (stepP sx) else wrongP 4 sx from rfl)
          obtain ⟨sy, hsy⟩ : ∃ y, y = partS (ktOf T) sx := ⟨_, rfl⟩
          rw [← hsy] at HDo HGG HNX HPS
          have HBL := Lib.hid (show sx.cols.length ≤ 1000000 ∧ sx.pls.length ≤ 1000000 ∧ sx.tks.length ≤ 1000000 from ⟨by have := hB.out.cols; have := HAT.out; have := HSM.out; omega, by have := hB.out.pls; have := HAT.out; have := HSM.out; omega, by have := hB.out.tks; have := HAT.out; have := HSM.out; omega⟩)
          clear he hn1 htb hsy hDn
          go_wp2_with fail
          refine CT.out.mono ?_
          rintro e wa ⟨rfl, hS⟩
          have HNwa := Lib.hid (HN.out.turn hS (Mv.refl _))
          have HAwa := Lib.hid (HA.out.then_ (hS.2.mono (H' := NH (gr + 1) h1) fun _ _ e => .inl e) HSB.out)
          clear hS CT c3
          have CT1 := Lib.hid (pa_take ⟨#[99, 111, 108, 111, 117, 114]⟩ (by decide) wa (Lib.hid HNwa.out.pat))
          have HPS1 := Lib.hid (HPS.out)
          rcases ht1 : takeB (ktOf T) ⟨#[99, 111, 108, 111, 117, 114]⟩ sx with _ | _
          · rw [ht1, show takeP (ktOf T) ⟨#[99, 111, 108, 111, 117, 114]⟩ sx = sx from take_false ht1] at CT1
            have HQ1 := HPS1.out
            rw [ht1, if_neg (by decide)] at HQ1
            have HPS1 := Lib.hid HQ1
            clear HQ1 ht1
            go_wp2_with fail
            refine CT1.out.mono ?_
            rintro e wb ⟨rfl, hS⟩
            have HNwb := Lib.hid (HNwa.out.turn hS (Mv.refl _))
            have HAwb := Lib.hid (HAwa.out.then_ (hS.2.mono (H' := NH (gr + 1) h1) fun _ _ e => .inl e) HSB.out)
            clear hS CT1
            have CT2 := Lib.hid (pa_take ⟨#[112, 108, 97, 99, 101]⟩ (by decide) wb (Lib.hid HNwb.out.pat))
            have HPS2 := Lib.hid (HPS1.out)
            rcases ht2 : takeB (ktOf T) ⟨#[112, 108, 97, 99, 101]⟩ sx with _ | _
            · rw [ht2, show takeP (ktOf T) ⟨#[112, 108, 97, 99, 101]⟩ sx = sx from take_false ht2] at CT2
              have HQ2 := HPS2.out
              rw [ht2, if_neg (by decide)] at HQ2
              have HPS2 := Lib.hid HQ2
              clear HQ2 ht2
              go_wp2_with fail
              refine CT2.out.mono ?_
              rintro e wc ⟨rfl, hS⟩
              have HNwc := Lib.hid (HNwb.out.turn hS (Mv.refl _))
              have HAwc := Lib.hid (HAwb.out.then_ (hS.2.mono (H' := NH (gr + 1) h1) fun _ _ e => .inl e) HSB.out)
              clear hS CT2
              have CT3 := Lib.hid (pa_take ⟨#[116, 97, 115, 107]⟩ (by decide) wc (Lib.hid HNwc.out.pat))
              have HPS3 := Lib.hid (HPS2.out)
              rcases ht3 : takeB (ktOf T) ⟨#[116, 97, 115, 107]⟩ sx with _ | _
              · rw [ht3, show takeP (ktOf T) ⟨#[116, 97, 115, 107]⟩ sx = sx from take_false ht3] at CT3
                have HQ3 := HPS3.out
                rw [ht3, if_neg (by decide)] at HQ3
                have HPS3 := Lib.hid HQ3
                clear HQ3 ht3
                go_wp2_with fail
                refine CT3.out.mono ?_
                rintro e wd ⟨rfl, hS⟩
                have HNwd := Lib.hid (HNwc.out.turn hS (Mv.refl _))
                have HAwd := Lib.hid (HAwc.out.then_ (hS.2.mono (H' := NH (gr + 1) h1) fun _ _ e => .inl e) HSB.out)
                clear hS CT3
                have HMW := Lib.hid (mv_wrong (K := (ktOf T)) 4 sx)
                go_wp2_with fail
                refine (pa_wrong 4 (by decide) wd (Lib.hid HNwd.out.pat)).mono ?_
                rintro e wz ⟨rfl, hS⟩
                have HI2 := Lib.hid (show NTurn T en (gr + 1) A c w1.heap.size Hs.zero sy w1 wz by rw [HPS3.out]; exact NTurn.on HNwd.out HAwd.out HSB.out (NTurn.of_turn HNwd.out hS HMW.out))
                clear hS
                go_wp2_with fail
                go_roundg n
                case measure => omega
                case rel => exact ⟨sy, HI2, Lib.hid HGG.out.1, HDo, HNX⟩
              · rw [ht3, show takeP (ktOf T) ⟨#[116, 97, 115, 107]⟩ sx = stepP sx from take_true ht3] at CT3
                have HQ3 := HPS3.out
                rw [ht3, if_pos rfl] at HQ3
                have HPSt := Lib.hid HQ3
                have HMS := Lib.hid (mv_step (K := (ktOf T)) (take_lt (by decide) ht3).2)
                clear HQ3 ht3
                go_wp2_with fail
                refine CT3.out.mono ?_
                rintro e wd ⟨rfl, hS⟩
                have HNwd := Lib.hid (HNwc.out.turn hS HMS.out)
                have HAwd := Lib.hid (HAwc.out.then_ (hS.2.mono (H' := NH (gr + 1) h1) fun _ _ e => .inl e) HSB.out)
                clear hS CT3
                have CP := Lib.hid (pa_tasked wd HNwd (Lib.hid HBL.out))
                go_wp2_with fail
                refine CP.out.mono ?_
                rintro e wz ⟨rfl, hI2⟩
                rw [← HPSt.out] at hI2
                have HI2 := Lib.hid (NTurn.on HNwd.out HAwd.out HSB.out hI2)
                clear hI2
                go_wp2_with fail
                go_roundg n
                case measure => omega
                case rel => exact ⟨sy, HI2, Lib.hid HGG.out.1, HDo, HNX⟩
            · rw [ht2, show takeP (ktOf T) ⟨#[112, 108, 97, 99, 101]⟩ sx = stepP sx from take_true ht2] at CT2
              have HQ2 := HPS2.out
              rw [ht2, if_pos rfl] at HQ2
              have HPSt := Lib.hid HQ2
              have HMS := Lib.hid (mv_step (K := (ktOf T)) (take_lt (by decide) ht2).2)
              clear HQ2 ht2
              go_wp2_with fail
              refine CT2.out.mono ?_
              rintro e wc ⟨rfl, hS⟩
              have HNwc := Lib.hid (HNwb.out.turn hS HMS.out)
              have HAwc := Lib.hid (HAwb.out.then_ (hS.2.mono (H' := NH (gr + 1) h1) fun _ _ e => .inl e) HSB.out)
              clear hS CT2
              have CP := Lib.hid (pa_placed wc HNwc (Lib.hid ⟨HBL.out.1, HBL.out.2.1⟩))
              go_wp2_with fail
              refine CP.out.mono ?_
              rintro e wz ⟨rfl, hI2⟩
              rw [← HPSt.out] at hI2
              have HI2 := Lib.hid (NTurn.on HNwc.out HAwc.out HSB.out hI2)
              clear hI2
              go_wp2_with fail
              go_roundg n
              case measure => omega
              case rel => exact ⟨sy, HI2, Lib.hid HGG.out.1, HDo, HNX⟩
          · rw [ht1, show takeP (ktOf T) ⟨#[99, 111, 108, 111, 117, 114]⟩ sx = stepP sx from take_true ht1] at CT1
            have HQ1 := HPS1.out
            rw [ht1, if_pos rfl] at HQ1
            have HPSt := Lib.hid HQ1
            have HMS := Lib.hid (mv_step (K := (ktOf T)) (take_lt (by decide) ht1).2)
            clear HQ1 ht1
            go_wp2_with fail
            refine CT1.out.mono ?_
            rintro e wb ⟨rfl, hS⟩
            have HNwb := Lib.hid (HNwa.out.turn hS HMS.out)
            have HAwb := Lib.hid (HAwa.out.then_ (hS.2.mono (H' := NH (gr + 1) h1) fun _ _ e => .inl e) HSB.out)
            clear hS CT1
            have CP := Lib.hid (pa_colour wb HNwb (Lib.hid HBL.out.1))
            go_wp2_with fail
            refine CP.out.mono ?_
            rintro e wz ⟨rfl, hI2⟩
            rw [← HPSt.out] at hI2
            have HI2 := Lib.hid (NTurn.on HNwb.out HAwb.out HSB.out hI2)
            clear hI2
            go_wp2_with fail
            go_roundg n
            case measure => omega
            case rel => exact ⟨sy, HI2, Lib.hid HGG.out.1, HDo, HNX⟩
        · rw [htb, show takeP (ktOf T) ⟨#[102, 114, 111, 109]⟩ sx = stepP sx from take_true htb] at CT
          have HSU := Lib.hid (show S1 = stepP sx from hDn.out.symm.trans (decls_take n sx he htb))
          have HMS := Lib.hid (mv_step (K := (ktOf T)) (take_lt (by decide) htb).2)
          clear he hn1 htb hDn
          go_wp2_with fail
          refine CT.out.mono ?_
          rintro e wa ⟨rfl, hS⟩
          have HI2 := Lib.hid (NTurn.on HN.out HA.out HSB.out (NTurn.of_turn HN.out hS HMS.out))
          clear hS CT c3
          go_wp2
          go_meet
          rw [HSU.out]
          exact ⟨HI2, Lib.hid ⟨Nat.le_succ_of_le hB.out.cols, Nat.le_succ_of_le hB.out.pls, Nat.le_succ_of_le hB.out.tks⟩⟩
      · have z1 : (sx.err == 0) = false := by simpa using he
        have HSU := Lib.hid (show S1 = sx from hDn.out.symm.trans (decls_stuck _ sx he))
        clear he hDn
        go_wp2
        go_meet
        rw [HSU.out]
        exact ⟨hI, hB⟩
  case rest =>
    obtain ⟨hI, hB⟩ := hcut
    obtain ⟨h1, M1, M2, M3, N1, a1, sub1⟩ := hI.out
    have HN := Lib.hid N1
    have HA := Lib.hid a1
    have HSB := Lib.hid sub1
    have HBL := Lib.hid (show S1.pls.length ≤ 1000000 by have := hB.out.pls; have := N1.at_; have := HSM.out; omega)
    have HGR := Lib.hid (row_keep' R1.out a1 (fun e => by
      rcases e with e | e | e | e | e
      · omega
      all_goals cases e))
    obtain ⟨p1, hp1⟩ : ∃ y, y = knownV (ktOf T) (findPl S1) S1 := ⟨_, rfl⟩
    obtain ⟨s2, hs2⟩ : ∃ y, y = knownS (ktOf T) (findPl S1) S1 := ⟨_, rfl⟩
    obtain ⟨s3, hs3⟩ : ∃ y, y = wantP (ktOf T) ⟨#[59]⟩ { s2 with from_ := p1 } := ⟨_, rfl⟩
    obtain ⟨s4, hs4⟩ : ∃ y, y = wantP (ktOf T) ⟨#[116, 111]⟩ s3 := ⟨_, rfl⟩
    obtain ⟨p2, hp2⟩ : ∃ y, y = knownV (ktOf T) (findPl s4) s4 := ⟨_, rfl⟩
    obtain ⟨s5, hs5⟩ : ∃ y, y = knownS (ktOf T) (findPl s4) s4 := ⟨_, rfl⟩
    obtain ⟨s6, hs6⟩ : ∃ y, y = wantP (ktOf T) ⟨#[59]⟩ { s5 with to_ := p2 } := ⟨_, rfl⟩
    have HE := Lib.hid (show endsP (ktOf T) S1 = s6 by unfold endsP; rw [hs6, hs5, hp2, hs4, hs3, hs2, hp1])
    have HM2 := Lib.hid (show Mv (ktOf T) S1 s2 by rw [hs2]; exact mv_known _ _)
    have HM3 := Lib.hid (show Mv (ktOf T) { s2 with from_ := p1 } s3 by rw [hs3]; exact mv_want (by decide) _)
    have HM4 := Lib.hid (show Mv (ktOf T) s3 s4 by rw [hs4]; exact mv_want (by decide) _)
    have HM5 := Lib.hid (show Mv (ktOf T) s4 s5 by rw [hs5]; exact mv_known _ _)
    have HM6 := Lib.hid (show Mv (ktOf T) { s5 with to_ := p2 } s6 by rw [hs6]; exact mv_want (by decide) _)
    have HI1 := Lib.hid (show I64 p1 by rw [hp1]; exact known_lo S1 (by rw [List.length_map]; exact HBL.out))
    have HPL := Lib.hid (show s4.pls.length ≤ 1000000 by rw [HM4.out.pls, HM3.out.pls]; show s2.pls.length ≤ _; rw [HM2.out.pls]; exact HBL.out)
    have HI2 := Lib.hid (show I64 p2 by rw [hp2]; exact known_lo s4 (by rw [List.length_map]; exact HPL.out))
    have CA := Lib.hid (fun W (hW : NAt T en (gr + 1) A c w1.heap.size h1 M1 M2 M3 S1 W) => (show Calls Tryz.prog 72 #[.pointer (some ⟨gr + 1, 0, none⟩), .func (.func 73) #[.pointer (some ⟨gr + 1, 0, none⟩)] #[]] W fun e w' => e = .returned (.int .i64 p1) ∧ Turned T en (gr + 1) A c h1 s2 W w' by rw [hp1, hs2]; exact pa_known 73 (findPl S1) W (Lib.hid hW.pat) (Lib.hid (hW.fpl (AgH.refl _ _)))))
    have CB := Lib.hid (fun W {h'} (hW : PAt T en (gr + 1) A c h' { s2 with from_ := p1 } W) => (show Calls Tryz.prog 74 #[.pointer (some ⟨gr + 1, 0, none⟩), .string ⟨#[59]⟩] W fun e w' => e = .returned (.tuple #[]) ∧ Turned T en (gr + 1) A c h' s3 W w' by rw [hs3]; exact pa_want _ (by decide) W (Lib.hid hW)))
    have CC := Lib.hid (fun W {h'} (hW : PAt T en (gr + 1) A c h' s3 W) => (show Calls Tryz.prog 74 #[.pointer (some ⟨gr + 1, 0, none⟩), .string ⟨#[116, 111]⟩] W fun e w' => e = .returned (.tuple #[]) ∧ Turned T en (gr + 1) A c h' s4 W w' by rw [hs4]; exact pa_want _ (by decide) W (Lib.hid hW)))
    have CD := Lib.hid (fun W {h'} (hW : NAt T en (gr + 1) A c w1.heap.size h' M1 M2 M3 s4 W) => (show Calls Tryz.prog 72 #[.pointer (some ⟨gr + 1, 0, none⟩), .func (.func 73) #[.pointer (some ⟨gr + 1, 0, none⟩)] #[]] W fun e w' => e = .returned (.int .i64 p2) ∧ Turned T en (gr + 1) A c h' s5 W w' by rw [hp2, hs5]; exact pa_known 73 (findPl s4) W (Lib.hid hW.pat) (Lib.hid (hW.fpl (AgH.refl _ _)))))
    have CE := Lib.hid (fun W {h'} (hW : PAt T en (gr + 1) A c h' { s5 with to_ := p2 } W) => (show Calls Tryz.prog 74 #[.pointer (some ⟨gr + 1, 0, none⟩), .string ⟨#[59]⟩] W fun e w' => e = .returned (.tuple #[]) ∧ Turned T en (gr + 1) A c h' s6 W w' by rw [hs6]; exact pa_want _ (by decide) W (Lib.hid hW)))
    rw [HE.out] at HAL
    obtain ⟨ng, hng⟩ : ∃ y, y = gr + 1 := ⟨_, rfl⟩
    have HNG := Lib.hid hng
    clear N1 a1 sub1 hI hp1 hs2 hs3 hs4 hp2 hs5 hs6
    rw [← hng] at HN HA HSB CA CB CC CD CE ⊢
    clear hng
    have HGNE := Lib.hid (show gr ≠ ng by have := HNG.out; omega)
    go_wp2_with fail
    refine (CA.out wc HN.out).mono ?_
    rintro e w2 ⟨rfl, hS⟩
    have N2 := HN.out.turn hS HM2.out
    have HN2 := Lib.hid N2
    have HA2 := Lib.hid hS.2
    have b8 := N2.blk.c8
    have f8 := N2.blk.froz 8
    clear hS N2
    go_upto_region 11 with fail
    obtain ⟨N3, a3⟩ := HN2.out.from p1 HI1.out
    obtain ⟨w3, hw3⟩ : ∃ y, y = w2.setCell ⟨ng, 8, none⟩ (.int .i64 p1) := ⟨_, rfl⟩
    rw [← hw3] at N3 a3 ⊢
    have HN3 := Lib.hid N3
    have HA3 := Lib.hid a3
    clear hw3 b8 f8 N3 a3
    go_wp2_with fail
    refine (CB.out w3 HN3.out.pat).mono ?_
    rintro e w4 ⟨rfl, hS⟩
    have HN4 := Lib.hid (HN3.out.turn hS HM3.out)
    have HA4 := Lib.hid hS.2
    clear hS
    go_wp2_with fail
    refine (CC.out w4 HN4.out.pat).mono ?_
    rintro e w5 ⟨rfl, hS⟩
    have HN5 := Lib.hid (HN4.out.turn hS HM4.out)
    have HA5 := Lib.hid hS.2
    clear hS
    go_wp2_with fail
    refine (CD.out w5 HN5.out).mono ?_
    rintro e w6 ⟨rfl, hS⟩
    have N6 := HN5.out.turn hS HM5.out
    have HN6 := Lib.hid N6
    have HA6 := Lib.hid hS.2
    have b9 := N6.blk.c9
    have f9 := N6.blk.froz 9
    clear hS N6
    go_upto_region 14 with fail
    obtain ⟨N7, a7⟩ := HN6.out.to p2 HI2.out
    obtain ⟨w7, hw7⟩ : ∃ y, y = w6.setCell ⟨ng, 9, none⟩ (.int .i64 p2) := ⟨_, rfl⟩
    rw [← hw7] at N7 a7 ⊢
    have HN7 := Lib.hid N7
    have HA7 := Lib.hid a7
    clear hw7 b9 f9 N7 a7
    go_wp2_with fail
    refine (CE.out w7 HN7.out.pat).mono ?_
    rintro e w8 ⟨rfl, hS⟩
    have N8 := HN7.out.turn hS HM6.out
    have HN8 := Lib.hid N8
    have b5 := N8.blk.c5
    have b6 := N8.blk.c6
    have b7 := N8.blk.c7
    have b8 := N8.blk.c8
    have b9 := N8.blk.c9
    have HA8 := Lib.hid ((((((HA2.out.trans HA3.out).trans HA4.out).trans HA5.out).trans HA6.out).trans HA7.out).trans hS.2)
    have HGR8 := Lib.hid (row_keep HGR.out HA8.out HGNE.out)
    clear hS N8
    go_wp2_with fail
    refine (pa_told_n _ _ _ _ _ _ _ _ _ _ _ w8 (Lib.hid HN8.out.pat)).mono ?_
    rintro e w9 ⟨hcase, hA9⟩
    have r9 := row_keep HGR8.out hA9 HGNE.out
    have HR9 := Lib.hid r9
    have HA9 := Lib.hid hA9
    have c0 := row_cell r9 0 _ rfl
    have c1 := row_cell r9 1 _ rfl
    have c2 := row_cell r9 2 _ rfl
    have c3 := row_cell r9 3 _ rfl
    have c4 := row_cell r9 4 _ rfl
    have f0 := frozen_row (o := 0) r9
    have f1 := frozen_row (o := 1) r9
    have f2 := frozen_row (o := 2) r9
    have f3 := frozen_row (o := 3) r9
    have f4 := frozen_row (o := 4) r9
    have HFR := Lib.hid (fun x y z u v => (ag_put5 (H := fun i => i = gr ∨ i = ng) ((HA8.out.trans HA9.out).mono fun i _ e => .inr e) (.inl (.inl rfl)) x y z u v))
    have HFB := Lib.hid (fun x y z u v => (ag_put5 (H := fun i => i < w1.heap.size) (HA9.out.mono fun i _ e => by have := HNG.out; have := HL1.out; have := HG.out; rw [show i = ng from e]; show ng < w1.heap.size; omega) (.inl (by have := HL1.out; have := HG.out; show gr < w1.heap.size; omega)) x y z u v))
    have HBE := Lib.hid (fun x y z u v => HB1.out.trans (((HA.out.mono (H' := fun i => i = gr ∨ i = ng) fun i _ e => by
      rcases e with e | e | e | e | e
      · exact .inr e
      all_goals cases e).trans (HFR.out x y z u v)).below (B := w.heap.size) (by have := HL1.out; omega) fun i hi e => by have := HG.out; have := HNG.out; omega))
    clear r9 hA9 b5 b6 b7 b8 b9
    rcases hcase with ⟨he, rfl⟩ | ⟨he, rfl⟩
    · have HZ := Lib.hid (HAL.out.trans (if_pos he))
      clear he
      go_wp2
      refine bodyPost_ret (res_Net (row_put5 HR9.out _ _ _ _ _) rfl rfl rfl) rfl ?_
      rw [HZ.out]
      refine ⟨h1.A1, h1.n1, h1.c1, h1.A2, h1.n2, h1.c2, h1.A3, h1.n3, h1.c3, ?_, ?_, HBE.out _ _ _ _ _⟩
      · have e4 : p1 = s6.from_ := HN8.out.e4
        have e5 : p2 = s6.to_ := HN8.out.e5
        show _ = Ending.returned (.tuple #[netV _ _ _ _ _ _ _ _ _ (ntOf (toldS (ktOf T) s6)).from_ (ntOf (toldS (ktOf T) s6)).to_, .int .i64 en, .int .i64 0])
        rw [told_nt]
        show _ = Ending.returned (.tuple #[netV _ _ _ _ _ _ _ _ _ s6.from_ s6.to_, .int .i64 en, .int .i64 0])
        rw [← e4, ← e5]
      · show HeldH _ _ fun W => NetAt W _ _ _ _ _ _ _ _ _ (ntOf (toldS (ktOf T) s6))
        rw [told_nt]
        exact (HN8.out.netAt.go (HFB.out _ _ _ _ _)).mono fun i _ e => by have := HL1.out; have e2 : i < w.heap.size := e; show i < w1.heap.size; omega
    · have HZ := Lib.hid (HAL.out.trans (if_neg he))
      clear he
      go_wp2
      refine bodyPost_ret (res_Net (row_put5 HR9.out _ _ _ _ _) rfl rfl rfl) rfl ?_
      rw [HZ.out]
      exact ⟨none, 0, 0, none, 0, 0, none, 0, 0, rfl, fun W _ => NetAt.zero W, HBE.out _ _ _ _ _⟩
end
end Go.Proofs.YtkpjhjoopdbkaaaGreatDoor
namespace Go.Proofs.YtkpjhjoopdbkaaaGreatDoor
/-- The kind, the length, the error of the token that a text begins with. -/
def nxK (r : List UInt8) : Int := if isLetter (r.getD 0 0) then (if 32 < (r.takeWhile isNamed).length then 0 else 1) else if isDigit (r.getD 0 0) then 2 else 3
def nxN (r : List UInt8) : Nat := if isLetter (r.getD 0 0) then (r.takeWhile isNamed).length else if isDigit (r.getD 0 0) then (r.takeWhile isDigit).length else if anyTwo r then 2 else 1
def numE (r : List UInt8) : Int :=
  if 0 < ((r.dropWhile isDigit).takeWhile isNamed).length then 4 else if 1 < (r.takeWhile isDigit).length ∧ r[0]? = some 48 then 4 else if numOk (r.takeWhile isDigit) then 0 else 6
def sgE (r : List UInt8) : Int := if anyTwo r then 0 else if oneSigns.contains (r.getD 0 0) then 0 else 4
def nxE (r : List UInt8) : Int := if isLetter (r.getD 0 0) then (if 32 < (r.takeWhile isNamed).length then 2 else 0) else if isDigit (r.getD 0 0) then numE r else sgE r
theorem drop_getD (l : List UInt8) (k : Nat) : (l.drop k).getD 0 0 = l.getD k 0 := by simp [List.getD]
theorem runL_drop (p : UInt8 → Bool) (l : List UInt8) (k : Nat) : runL p l k - k = ((l.drop k).takeWhile p).length := by unfold runL; omega
theorem takeWhile_take (p : UInt8 → Bool) (r : List UInt8) : r.take (r.takeWhile p).length = r.takeWhile p := by
  induction r with
  | nil => rfl
  | cons c r ih =>
    by_cases h : p c = true
    · rw [List.takeWhile_cons_of_pos h]; simp [ih]
    · rw [List.takeWhile_cons_of_neg h]; simp
theorem nextK_drop (l : List UInt8) (k : Nat) : nextK l k = nxK (l.drop k) := by unfold nextK nxK; rw [drop_getD, runL_drop]
theorem numberE_drop (l : List UInt8) (k : Nat) : numberE l k = numE (l.drop k) := by
  unfold numberE numE
  have e1 : runL isNamed l (runL isDigit l k) = runL isDigit l k + (((l.drop k).dropWhile isDigit).takeWhile isNamed).length := by
    rw [← drop_runL]; rfl
  have e2 : runL isDigit l k = k + ((l.drop k).takeWhile isDigit).length := rfl
  rw [e1, e2]
  simp only [Nat.add_sub_cancel_left, takeWhile_take, List.getElem?_drop, Nat.add_zero, Nat.add_lt_add_iff_left, Nat.lt_add_right_iff_pos]
theorem nextE_drop (l : List UInt8) (k : Nat) : nextE l k = nxE (l.drop k) := by unfold nextE nxE signE sgE; rw [drop_getD, runL_drop, numberE_drop]
theorem nextEnd_drop {l : List UInt8} {k : Nat} (he : nextE l k = 0) : nextEnd l k = k + nxN (l.drop k) := by
  unfold nextEnd nextV nxN
  unfold nextE at he
  rw [drop_getD]
  by_cases h1 : isLetter (l.getD k 0) = true
  · rw [if_pos h1] at he ⊢
    rw [if_pos h1]
    by_cases h2 : 32 < runL isNamed l k - k
    · rw [if_pos h2] at he; cases he
    · rw [if_neg h2]; simp [runL]; omega
  · rw [if_neg h1] at he ⊢
    rw [if_neg h1]
    by_cases h2 : isDigit (l.getD k 0) = true
    · rw [if_pos h2] at he ⊢
      rw [if_pos h2]
      unfold numberV
      rw [if_pos he]; simp [runL]; omega
    · rw [if_neg h2] at he ⊢
      rw [if_neg h2]
      unfold signV
      unfold signE at he
      by_cases h3 : anyTwo (l.drop k) = true
      · rw [if_pos h3, if_pos h3]; omega
      · rw [if_neg h3] at he ⊢
        rw [if_neg h3]
        by_cases h4 : oneSigns.contains (l.getD k 0) = true
        · rw [if_pos h4]; omega
        · rw [if_neg h4] at he; cases he
/-- The tokens of a rest that begins at place k, the place, the error. -/
def lexO : Nat → Nat → List UInt8 → List Tok × Nat × Int
  | 0, k, _ => ([], k, 0)
  | f + 1, k, r =>
    if skipC false r = [] then ([], k + r.length, 0)
    else if nxE (skipC false r) = 0 then
      (if (lexO f (k + (r.length - (skipC false r).length) + nxN (skipC false r)) ((skipC false r).drop (nxN (skipC false r)))).2.2 = 0 then
        (⟨nxK (skipC false r), ⟨((skipC false r).take (nxN (skipC false r))).toArray⟩, k + (r.length - (skipC false r).length)⟩ :: (lexO f (k + (r.length - (skipC false r).length) + nxN (skipC false r)) ((skipC false r).drop (nxN (skipC false r)))).1, (lexO f (k + (r.length - (skipC false r).length) + nxN (skipC false r)) ((skipC false r).drop (nxN (skipC false r)))).2.1, 0)
       else ([], (lexO f (k + (r.length - (skipC false r).length) + nxN (skipC false r)) ((skipC false r).drop (nxN (skipC false r)))).2.1, (lexO f (k + (r.length - (skipC false r).length) + nxN (skipC false r)) ((skipC false r).drop (nxN (skipC false r)))).2.2))
    else ([], k + (r.length - (skipC false r).length), nxE (skipC false r))
theorem skipC_drop (l : List UInt8) : ∀ b : Bool, skipC b l = l.drop (l.length - (skipC b l).length) := by
  induction l with
  | nil => intro b; cases b <;> rfl
  | cons c r ih =>
    intro b
    have h1 := ih true
    have h2 := ih false
    have l1 := skipC_len true r
    have l2 := skipC_len false r
    cases b
    · simp only [skipC]
      split
      · rw [List.length_cons, show r.length + 1 - (skipC false r).length = (r.length - (skipC false r).length) + 1 by omega, List.drop_succ_cons]; exact h2
      · split
        · rw [List.length_cons, show r.length + 1 - (skipC true r).length = (r.length - (skipC true r).length) + 1 by omega, List.drop_succ_cons]; exact h1
        · simp
    · simp only [skipC]
      split
      · rw [List.length_cons, show r.length + 1 - (skipC true r).length = (r.length - (skipC true r).length) + 1 by omega, List.drop_succ_cons]; exact h1
      · rw [List.length_cons, show r.length + 1 - (skipC false r).length = (r.length - (skipC false r).length) + 1 by omega, List.drop_succ_cons]; exact h2
theorem drop_skipTo (l : List UInt8) (k : Nat) (hk : k ≤ l.length) : l.drop (skipTo l k) = skipC false (l.drop k) ∧ skipTo l k = k + ((l.drop k).length - (skipC false (l.drop k)).length) := by
  have h1 := skipC_len false (l.drop k)
  have h2 : (l.drop k).length = l.length - k := List.length_drop
  have e : skipTo l k = k + ((l.drop k).length - (skipC false (l.drop k)).length) := by unfold skipTo; omega
  refine ⟨?_, e⟩
  rw [e, ← List.drop_drop, ← skipC_drop]
/-- The tokens so far, and what is left. -/
def glue (acc : List Tok) (r : List Tok × Nat × Int) : List Tok × Nat × Int := if r.2.2 = 0 then (acc ++ r.1, r.2.1, 0) else ([], r.2.1, r.2.2)
theorem lexF_O (l : List UInt8) : ∀ (f k : Nat) (acc : List Tok), k ≤ l.length → l.length < k + f → lexF l f (skipTo l k) acc = glue acc (lexO f k (l.drop k)) := by
  intro f
  induction f with
  | zero => intro k acc h1 h2; omega
  | succ f ih =>
    intro k acc hk hf
    obtain ⟨e1, e2⟩ := drop_skipTo l k hk
    have hb := skipTo_bd hk
    have hdl : (l.drop k).length = l.length - k := List.length_drop
    by_cases hlt : skipTo l k < l.length
    · have hne : skipC false (l.drop k) ≠ [] := by
        rw [← e1]; intro h
        have := congrArg List.length h
        rw [List.length_drop] at this
        simp at this; omega
      simp only [lexF]
      rw [if_pos hlt, nextE_drop, e1]
      simp only [lexO]
      rw [if_neg hne]
      by_cases he : nxE (skipC false (l.drop k)) = 0
      · rw [if_pos he, if_pos he]
        have he2 : nextE l (skipTo l k) = 0 := by rw [nextE_drop, e1]; exact he
        have e3 := nextEnd_drop he2
        rw [e1] at e3
        obtain ⟨_, g1, g2⟩ := next_end hlt he2
        rw [ih _ _ (by omega) (by omega)]
        have e4 : l.drop (nextEnd l (skipTo l k)) = (skipC false (l.drop k)).drop (nxN (skipC false (l.drop k))) := by rw [e3, ← List.drop_drop, e1]
        rw [e4]
        have e5 : nextTok l (skipTo l k) = ⟨nxK (skipC false (l.drop k)), ⟨((skipC false (l.drop k)).take (nxN (skipC false (l.drop k)))).toArray⟩, k + ((l.drop k).length - (skipC false (l.drop k)).length)⟩ := by
          unfold nextTok
          rw [nextK_drop, e1, ← e2, e3, Nat.add_sub_cancel_left]
        rw [e5, e3, e2]
        generalize lexO f _ _ = R
        unfold glue
        by_cases hR : R.2.2 = 0
        · simp [hR]
        · simp [hR]
      · rw [if_neg he, if_neg he, e2]
        simp [glue, he]
    · have hge : skipTo l k = l.length := by omega
      have hnil : skipC false (l.drop k) = [] := by rw [← e1, hge]; simp
      simp only [lexF, lexO]
      rw [if_neg hlt, if_pos hnil, hdl]
      simp [glue]; omega
/-- Lex's answer, by what is left. -/
theorem lexR_O (l : List UInt8) (h : l.length ≤ 16384) : lexR l = lexO (l.length + 1) 0 l := by
  unfold lexR
  rw [if_neg (by omega), lexF_O l _ 0 [] (by omega) (by omega), List.drop_zero]
  unfold glue
  split
  · rename_i h0
    rw [List.nil_append, ← h0]
  · rename_i h0
    have : ∀ f k r, (lexO f k r).2.2 ≠ 0 → (lexO f k r).1 = [] := by
      intro f k r h
      cases f with
      | zero => rfl
      | succ f =>
        simp only [lexO] at h ⊢
        split
        · rfl
        · split
          · split
            · rename_i h1 h2 h3; rw [if_neg h1, if_pos h2, if_pos h3] at h; exact absurd rfl h
            · rfl
          · rfl
    rw [← this _ _ _ h0]
end Go.Proofs.YtkpjhjoopdbkaaaGreatDoor
