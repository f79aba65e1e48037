/- Joined: Package parse: tasked. Printed by gen_pbK.py. -/
import Derived.Test.YtkpjhjoopdbkaaaGreatDoorG20
namespace Go.Proofs.YtkpjhjoopdbkaaaGreatDoor
open Go.RowKit
theorem tks_ty : SlTy Tryz.prog 37 59 14 200 := SlTy.mk (z := .agg #[.string ⟨#[]⟩, .slice none 0 0, .int .i64 0, .int .i64 0, .slice none 0 0, .int .i64 0, .int .i64 0, .slice none 0 0, .slice none 0 0, .slice none 0 0, .int .i64 0, .int .i64 0, .int .i64 0, .int .i64 0]) (by kernel_rfl) (by kernel_rfl) rfl (by decide)
theorem tkv_one (k : TkV) : ∀ u ∈ k.cells, u.oneCell' = true := by
  intro u hu
  simp only [TkV.cells, List.mem_cons, List.not_mem_nil, or_false] at hu
  rcases hu with rfl | rfl | rfl | rfl | rfl | rfl | rfl | rfl | rfl | rfl | rfl | rfl | rfl | rfl <;> rfl
theorem box_named {w : World} {gt g mb : Nat} {nv : ByteArray} (h : BoxAt w gt g mb TkV.zero) : BoxAt (((((((((((((((w.setCell ⟨gt, 1, none⟩ (.string nv)).setCell ⟨gt, 2, none⟩ (.slice none 0 0)).setCell ⟨gt, 3, none⟩ (.int .i64 1)).setCell ⟨gt, 4, none⟩ (.int .i64 1)).setCell ⟨gt, 5, none⟩ (.slice none 0 0)).setCell ⟨gt, 6, none⟩ (.int .i64 1)).setCell ⟨gt, 7, none⟩ (.int .i64 1)).setCell ⟨gt, 8, none⟩ (.slice none 0 0)).setCell ⟨gt, 9, none⟩ (.slice none 0 0)).setCell ⟨gt, 10, none⟩ (.slice none 0 0)).setCell ⟨gt, 11, none⟩ (.int .i64 0)).setCell ⟨gt, 12, none⟩ (.int .i64 0)).setCell ⟨gt, 13, none⟩ (.int .i64 0)).setCell ⟨gt, 14, none⟩ (.int .i64 0))) gt g mb { TkV.zero with t := Tk.named nv } := by
  have r0 : w.heap[gt]? = some (.cells #[.pointer (some ⟨g, 0, none⟩), .string ⟨#[]⟩, .slice none 0 0, .int .i64 0, .int .i64 0, .slice none 0 0, .int .i64 0, .int .i64 0, .slice none 0 0, .slice none 0 0, .slice none 0 0, .int .i64 0, .int .i64 0, .int .i64 0, .int .i64 0, .map (some mb)] 168 (0, 0)) := h
  have r1 : (w.setCell ⟨gt, 1, none⟩ (.string nv)).heap[gt]? = some (.cells #[.pointer (some ⟨g, 0, none⟩), .string nv, .slice none 0 0, .int .i64 0, .int .i64 0, .slice none 0 0, .int .i64 0, .int .i64 0, .slice none 0 0, .slice none 0 0, .slice none 0 0, .int .i64 0, .int .i64 0, .int .i64 0, .int .i64 0, .map (some mb)] 168 (0, 0)) := row_set r0 rfl
  have r2 : ((w.setCell ⟨gt, 1, none⟩ (.string nv)).setCell ⟨gt, 2, none⟩ (.slice none 0 0)).heap[gt]? = some (.cells #[.pointer (some ⟨g, 0, none⟩), .string nv, .slice none 0 0, .int .i64 0, .int .i64 0, .slice none 0 0, .int .i64 0, .int .i64 0, .slice none 0 0, .slice none 0 0, .slice none 0 0, .int .i64 0, .int .i64 0, .int .i64 0, .int .i64 0, .map (some mb)] 168 (0, 0)) := row_set r1 rfl
  have r3 : (((w.setCell ⟨gt, 1, none⟩ (.string nv)).setCell ⟨gt, 2, none⟩ (.slice none 0 0)).setCell ⟨gt, 3, none⟩ (.int .i64 1)).heap[gt]? = some (.cells #[.pointer (some ⟨g, 0, none⟩), .string nv, .slice none 0 0, .int .i64 1, .int .i64 0, .slice none 0 0, .int .i64 0, .int .i64 0, .slice none 0 0, .slice none 0 0, .slice none 0 0, .int .i64 0, .int .i64 0, .int .i64 0, .int .i64 0, .map (some mb)] 168 (0, 0)) := row_set r2 rfl
  have r4 : ((((w.setCell ⟨gt, 1, none⟩ (.string nv)).setCell ⟨gt, 2, none⟩ (.slice none 0 0)).setCell ⟨gt, 3, none⟩ (.int .i64 1)).setCell ⟨gt, 4, none⟩ (.int .i64 1)).heap[gt]? = some (.cells #[.pointer (some ⟨g, 0, none⟩), .string nv, .slice none 0 0, .int .i64 1, .int .i64 1, .slice none 0 0, .int .i64 0, .int .i64 0, .slice none 0 0, .slice none 0 0, .slice none 0 0, .int .i64 0, .int .i64 0, .int .i64 0, .int .i64 0, .map (some mb)] 168 (0, 0)) := row_set r3 rfl
  have r5 : (((((w.setCell ⟨gt, 1, none⟩ (.string nv)).setCell ⟨gt, 2, none⟩ (.slice none 0 0)).setCell ⟨gt, 3, none⟩ (.int .i64 1)).setCell ⟨gt, 4, none⟩ (.int .i64 1)).setCell ⟨gt, 5, none⟩ (.slice none 0 0)).heap[gt]? = some (.cells #[.pointer (some ⟨g, 0, none⟩), .string nv, .slice none 0 0, .int .i64 1, .int .i64 1, .slice none 0 0, .int .i64 0, .int .i64 0, .slice none 0 0, .slice none 0 0, .slice none 0 0, .int .i64 0, .int .i64 0, .int .i64 0, .int .i64 0, .map (some mb)] 168 (0, 0)) := row_set r4 rfl
  have r6 : ((((((w.setCell ⟨gt, 1, none⟩ (.string nv)).setCell ⟨gt, 2, none⟩ (.slice none 0 0)).setCell ⟨gt, 3, none⟩ (.int .i64 1)).setCell ⟨gt, 4, none⟩ (.int .i64 1)).setCell ⟨gt, 5, none⟩ (.slice none 0 0)).setCell ⟨gt, 6, none⟩ (.int .i64 1)).heap[gt]? = some (.cells #[.pointer (some ⟨g, 0, none⟩), .string nv, .slice none 0 0, .int .i64 1, .int .i64 1, .slice none 0 0, .int .i64 1, .int .i64 0, .slice none 0 0, .slice none 0 0, .slice none 0 0, .int .i64 0, .int .i64 0, .int .i64 0, .int .i64 0, .map (some mb)] 168 (0, 0)) := row_set r5 rfl
  have r7 : (((((((w.setCell ⟨gt, 1, none⟩ (.string nv)).setCell ⟨gt, 2, none⟩ (.slice none 0 0)).setCell ⟨gt, 3, none⟩ (.int .i64 1)).setCell ⟨gt, 4, none⟩ (.int .i64 1)).setCell ⟨gt, 5, none⟩ (.slice none 0 0)).setCell ⟨gt, 6, none⟩ (.int .i64 1)).setCell ⟨gt, 7, none⟩ (.int .i64 1)).heap[gt]? = some (.cells #[.pointer (some ⟨g, 0, none⟩), .string nv, .slice none 0 0, .int .i64 1, .int .i64 1, .slice none 0 0, .int .i64 1, .int .i64 1, .slice none 0 0, .slice none 0 0, .slice none 0 0, .int .i64 0, .int .i64 0, .int .i64 0, .int .i64 0, .map (some mb)] 168 (0, 0)) := row_set r6 rfl
  have r8 : ((((((((w.setCell ⟨gt, 1, none⟩ (.string nv)).setCell ⟨gt, 2, none⟩ (.slice none 0 0)).setCell ⟨gt, 3, none⟩ (.int .i64 1)).setCell ⟨gt, 4, none⟩ (.int .i64 1)).setCell ⟨gt, 5, none⟩ (.slice none 0 0)).setCell ⟨gt, 6, none⟩ (.int .i64 1)).setCell ⟨gt, 7, none⟩ (.int .i64 1)).setCell ⟨gt, 8, none⟩ (.slice none 0 0)).heap[gt]? = some (.cells #[.pointer (some ⟨g, 0, none⟩), .string nv, .slice none 0 0, .int .i64 1, .int .i64 1, .slice none 0 0, .int .i64 1, .int .i64 1, .slice none 0 0, .slice none 0 0, .slice none 0 0, .int .i64 0, .int .i64 0, .int .i64 0, .int .i64 0, .map (some mb)] 168 (0, 0)) := row_set r7 rfl
  have r9 : (((((((((w.setCell ⟨gt, 1, none⟩ (.string nv)).setCell ⟨gt, 2, none⟩ (.slice none 0 0)).setCell ⟨gt, 3, none⟩ (.int .i64 1)).setCell ⟨gt, 4, none⟩ (.int .i64 1)).setCell ⟨gt, 5, none⟩ (.slice none 0 0)).setCell ⟨gt, 6, none⟩ (.int .i64 1)).setCell ⟨gt, 7, none⟩ (.int .i64 1)).setCell ⟨gt, 8, none⟩ (.slice none 0 0)).setCell ⟨gt, 9, none⟩ (.slice none 0 0)).heap[gt]? = some (.cells #[.pointer (some ⟨g, 0, none⟩), .string nv, .slice none 0 0, .int .i64 1, .int .i64 1, .slice none 0 0, .int .i64 1, .int .i64 1, .slice none 0 0, .slice none 0 0, .slice none 0 0, .int .i64 0, .int .i64 0, .int .i64 0, .int .i64 0, .map (some mb)] 168 (0, 0)) := row_set r8 rfl
  have r10 : ((((((((((w.setCell ⟨gt, 1, none⟩ (.string nv)).setCell ⟨gt, 2, none⟩ (.slice none 0 0)).setCell ⟨gt, 3, none⟩ (.int .i64 1)).setCell ⟨gt, 4, none⟩ (.int .i64 1)).setCell ⟨gt, 5, none⟩ (.slice none 0 0)).setCell ⟨gt, 6, none⟩ (.int .i64 1)).setCell ⟨gt, 7, none⟩ (.int .i64 1)).setCell ⟨gt, 8, none⟩ (.slice none 0 0)).setCell ⟨gt, 9, none⟩ (.slice none 0 0)).setCell ⟨gt, 10, none⟩ (.slice none 0 0)).heap[gt]? = some (.cells #[.pointer (some ⟨g, 0, none⟩), .string nv, .slice none 0 0, .int .i64 1, .int .i64 1, .slice none 0 0, .int .i64 1, .int .i64 1, .slice none 0 0, .slice none 0 0, .slice none 0 0, .int .i64 0, .int .i64 0, .int .i64 0, .int .i64 0, .map (some mb)] 168 (0, 0)) := row_set r9 rfl
  have r11 : (((((((((((w.setCell ⟨gt, 1, none⟩ (.string nv)).setCell ⟨gt, 2, none⟩ (.slice none 0 0)).setCell ⟨gt, 3, none⟩ (.int .i64 1)).setCell ⟨gt, 4, none⟩ (.int .i64 1)).setCell ⟨gt, 5, none⟩ (.slice none 0 0)).setCell ⟨gt, 6, none⟩ (.int .i64 1)).setCell ⟨gt, 7, none⟩ (.int .i64 1)).setCell ⟨gt, 8, none⟩ (.slice none 0 0)).setCell ⟨gt, 9, none⟩ (.slice none 0 0)).setCell ⟨gt, 10, none⟩ (.slice none 0 0)).setCell ⟨gt, 11, none⟩ (.int .i64 0)).heap[gt]? = some (.cells #[.pointer (some ⟨g, 0, none⟩), .string nv, .slice none 0 0, .int .i64 1, .int .i64 1, .slice none 0 0, .int .i64 1, .int .i64 1, .slice none 0 0, .slice none 0 0, .slice none 0 0, .int .i64 0, .int .i64 0, .int .i64 0, .int .i64 0, .map (some mb)] 168 (0, 0)) := row_set r10 rfl
  have r12 : ((((((((((((w.setCell ⟨gt, 1, none⟩ (.string nv)).setCell ⟨gt, 2, none⟩ (.slice none 0 0)).setCell ⟨gt, 3, none⟩ (.int .i64 1)).setCell ⟨gt, 4, none⟩ (.int .i64 1)).setCell ⟨gt, 5, none⟩ (.slice none 0 0)).setCell ⟨gt, 6, none⟩ (.int .i64 1)).setCell ⟨gt, 7, none⟩ (.int .i64 1)).setCell ⟨gt, 8, none⟩ (.slice none 0 0)).setCell ⟨gt, 9, none⟩ (.slice none 0 0)).setCell ⟨gt, 10, none⟩ (.slice none 0 0)).setCell ⟨gt, 11, none⟩ (.int .i64 0)).setCell ⟨gt, 12, none⟩ (.int .i64 0)).heap[gt]? = some (.cells #[.pointer (some ⟨g, 0, none⟩), .string nv, .slice none 0 0, .int .i64 1, .int .i64 1, .slice none 0 0, .int .i64 1, .int .i64 1, .slice none 0 0, .slice none 0 0, .slice none 0 0, .int .i64 0, .int .i64 0, .int .i64 0, .int .i64 0, .map (some mb)] 168 (0, 0)) := row_set r11 rfl
  have r13 : (((((((((((((w.setCell ⟨gt, 1, none⟩ (.string nv)).setCell ⟨gt, 2, none⟩ (.slice none 0 0)).setCell ⟨gt, 3, none⟩ (.int .i64 1)).setCell ⟨gt, 4, none⟩ (.int .i64 1)).setCell ⟨gt, 5, none⟩ (.slice none 0 0)).setCell ⟨gt, 6, none⟩ (.int .i64 1)).setCell ⟨gt, 7, none⟩ (.int .i64 1)).setCell ⟨gt, 8, none⟩ (.slice none 0 0)).setCell ⟨gt, 9, none⟩ (.slice none 0 0)).setCell ⟨gt, 10, none⟩ (.slice none 0 0)).setCell ⟨gt, 11, none⟩ (.int .i64 0)).setCell ⟨gt, 12, none⟩ (.int .i64 0)).setCell ⟨gt, 13, none⟩ (.int .i64 0)).heap[gt]? = some (.cells #[.pointer (some ⟨g, 0, none⟩), .string nv, .slice none 0 0, .int .i64 1, .int .i64 1, .slice none 0 0, .int .i64 1, .int .i64 1, .slice none 0 0, .slice none 0 0, .slice none 0 0, .int .i64 0, .int .i64 0, .int .i64 0, .int .i64 0, .map (some mb)] 168 (0, 0)) := row_set r12 rfl
  have r14 : ((((((((((((((w.setCell ⟨gt, 1, none⟩ (.string nv)).setCell ⟨gt, 2, none⟩ (.slice none 0 0)).setCell ⟨gt, 3, none⟩ (.int .i64 1)).setCell ⟨gt, 4, none⟩ (.int .i64 1)).setCell ⟨gt, 5, none⟩ (.slice none 0 0)).setCell ⟨gt, 6, none⟩ (.int .i64 1)).setCell ⟨gt, 7, none⟩ (.int .i64 1)).setCell ⟨gt, 8, none⟩ (.slice none 0 0)).setCell ⟨gt, 9, none⟩ (.slice none 0 0)).setCell ⟨gt, 10, none⟩ (.slice none 0 0)).setCell ⟨gt, 11, none⟩ (.int .i64 0)).setCell ⟨gt, 12, none⟩ (.int .i64 0)).setCell ⟨gt, 13, none⟩ (.int .i64 0)).setCell ⟨gt, 14, none⟩ (.int .i64 0)).heap[gt]? = some (.cells #[.pointer (some ⟨g, 0, none⟩), .string nv, .slice none 0 0, .int .i64 1, .int .i64 1, .slice none 0 0, .int .i64 1, .int .i64 1, .slice none 0 0, .slice none 0 0, .slice none 0 0, .int .i64 0, .int .i64 0, .int .i64 0, .int .i64 0, .map (some mb)] 168 (0, 0)) := row_set r13 rfl
  exact r14
theorem ag_named {w : World} {gt : Nat} {nv : ByteArray} : AgH (only gt) w (((((((((((((((w.setCell ⟨gt, 1, none⟩ (.string nv)).setCell ⟨gt, 2, none⟩ (.slice none 0 0)).setCell ⟨gt, 3, none⟩ (.int .i64 1)).setCell ⟨gt, 4, none⟩ (.int .i64 1)).setCell ⟨gt, 5, none⟩ (.slice none 0 0)).setCell ⟨gt, 6, none⟩ (.int .i64 1)).setCell ⟨gt, 7, none⟩ (.int .i64 1)).setCell ⟨gt, 8, none⟩ (.slice none 0 0)).setCell ⟨gt, 9, none⟩ (.slice none 0 0)).setCell ⟨gt, 10, none⟩ (.slice none 0 0)).setCell ⟨gt, 11, none⟩ (.int .i64 0)).setCell ⟨gt, 12, none⟩ (.int .i64 0)).setCell ⟨gt, 13, none⟩ (.int .i64 0)).setCell ⟨gt, 14, none⟩ (.int .i64 0))) :=
  ((((((((((((((AgH.refl (only gt) w).setCell (p := ⟨gt, 1, none⟩) (.inl rfl) _).setCell (p := ⟨gt, 2, none⟩) (.inl rfl) _).setCell (p := ⟨gt, 3, none⟩) (.inl rfl) _).setCell (p := ⟨gt, 4, none⟩) (.inl rfl) _).setCell (p := ⟨gt, 5, none⟩) (.inl rfl) _).setCell (p := ⟨gt, 6, none⟩) (.inl rfl) _).setCell (p := ⟨gt, 7, none⟩) (.inl rfl) _).setCell (p := ⟨gt, 8, none⟩) (.inl rfl) _).setCell (p := ⟨gt, 9, none⟩) (.inl rfl) _).setCell (p := ⟨gt, 10, none⟩) (.inl rfl) _).setCell (p := ⟨gt, 11, none⟩) (.inl rfl) _).setCell (p := ⟨gt, 12, none⟩) (.inl rfl) _).setCell (p := ⟨gt, 13, none⟩) (.inl rfl) _).setCell (p := ⟨gt, 14, none⟩) (.inl rfl) _
section
variable {T : List Tok} {en : Int} {g : Nat} {A : Option Addr} {c base : Nat} {h : Hs} {L1 : List ColV} {L2 : List PlV} {L3 : List TkV} {s : Ps}
set_option maxRecDepth 100000 in
set_option maxHeartbeats 16000000 in
theorem pa_tasked (w : World) (hN : Hid (NAt T en g A c base h L1 L2 L3 s w)) (hb : Hid (s.cols.length ≤ 1000000 ∧ s.pls.length ≤ 1000000 ∧ s.tks.length ≤ 1000000)) :
    Calls Tryz.prog 71 #[.pointer (some ⟨g, 0, none⟩)] w fun e w' => e = .returned (.tuple #[]) ∧ NTurn T en g A c base h (taskS (ktOf T) s) w w' := by
  have hmm := @run_makeMap Tryz.prog
  obtain ⟨N1, a1, sub1⟩ := hN.out.new4
  have b10 := hN.out.blk.c10
  have f10 := hN.out.blk.froz 10
  have HGL := Lib.hid hN.out.blk.lt
  obtain ⟨w1, hw1⟩ : ∃ y, y = w.setCell ⟨g, 10, none⟩ (.slice none 0 0) := ⟨_, rfl⟩
  rw [← hw1] at N1 a1
  have HW1 := Lib.hid hw1.symm
  have HN1 := Lib.hid N1
  obtain ⟨mb, hmb⟩ : ∃ y, y = w1.heap.size := ⟨_, rfl⟩
  obtain ⟨gt, hgt⟩ : ∃ y, y = w1.heap.size + 1 := ⟨_, rfl⟩
  obtain ⟨w2, hw2⟩ : ∃ y, y = (w1.alloc (.map #[] 0)).alloc (.cells #[.pointer (some ⟨g, 0, none⟩), .string ⟨#[]⟩, .slice none 0 0, .int .i64 0, .int .i64 0, .slice none 0 0, .int .i64 0, .int .i64 0, .slice none 0 0, .slice none 0 0, .slice none 0 0, .int .i64 0, .int .i64 0, .int .i64 0, .int .i64 0, .map (some mb)] 168) := ⟨_, rfl⟩
  have HW2 := Lib.hid hw2.symm
  have HMB := Lib.hid hmb.symm
  have HGT := Lib.hid (show mb + 1 = gt by rw [hmb, hgt])
  have esz : (w1.alloc (.map #[] 0)).heap.size = w1.heap.size + 1 := World.size_alloc _ _
  have HBX := Lib.hid (show BoxAt w2 gt g mb TkV.zero by rw [hw2, hgt, ← esz]; exact heap_alloc_new _ _)
  have HB2 := Lib.hid (show Below w1.heap.size w1 w2 by rw [hw2]; exact below_then (alrB w1 _) (alrB _ _))
  have HOM := Lib.hid (show OwnS w2 mb 0 (.map []) by
    have h1 : OwnS (w1.alloc (.map #[] 0)) mb 0 (.map []) := by rw [hmb]; exact World.ownsMap_made _ _ _ _
    rw [hw2]
    exact ownS_keep (H := fun _ => False) h1 (AgH.of_below (alrB _ _)) (fun e => e))
  have HT2 := Lib.hid (TsAt.init (mb := mb) (gt := gt) hN.out a1 N1 sub1 rfl rfl rfl HB2.out HOM.out HBX.out hmb hgt)
  have HSZ2 := Lib.hid (show w2.heap.size = gt + 1 by rw [hw2, World.size_alloc, esz, hgt])
  obtain ⟨nv, hnv⟩ : ∃ y, y = nameV (ktOf T) s := ⟨_, rfl⟩
  obtain ⟨s0, hs0⟩ : ∃ y : Ps, y = { s with vars := [] } := ⟨_, rfl⟩
  obtain ⟨s1, hs1⟩ : ∃ y, y = freshS (ktOf T) (hadT (findTk s)) s0 := ⟨_, rfl⟩
  obtain ⟨s2, hs2⟩ : ∃ y, y = wantP (ktOf T) ⟨#[123]⟩ s1 := ⟨_, rfl⟩
  obtain ⟨U, hU⟩ : ∃ y, y = clausesP (ktOf T) (T.length + 1) ⟨Tk.named nv, [], s2⟩ := ⟨_, rfl⟩
  have HTS := Lib.hid (show taskS (ktOf T) s = { U.s with tks := U.s.tks ++ [U.t] } by unfold taskS; rw [hU, hs2, hs1, hs0, hnv, ktOf_len])
  have HU := Lib.hid hU.symm
  have HM1 := Lib.hid (show Mv (ktOf T) s0 s1 by rw [hs1]; exact mv_fresh _ _)
  have HM2 := Lib.hid (show Mv (ktOf T) s1 s2 by rw [hs2]; exact mv_want (by decide) _)
  have HS0 := Lib.hid hs0
  rw [← hs0] at HT2
  obtain ⟨gb, hgb⟩ : ∃ y, y = w2.heap.size := ⟨_, rfl⟩
  have HGB := Lib.hid hgb.symm
  have HGN := Lib.hid (show gb ≠ g by have := HSZ2.out; have := HGL.out; have := a1.size; omega)
  have HEN : nameV (ktOf T) s0 = nv := by rw [hnv, hs0]; rfl
  have CI := Lib.hid (fun W (e : W.heap.size = gb) => (show Calls Tryz.prog 126 #[.func (.func 132) #[.pointer (some ⟨g, 0, none⟩)] #[]] W fun e w' => e = .returned (.func (.func 161) #[] #[.pointer (some ⟨gb, 0, none⟩)]) ∧ Below W.heap.size W w' ∧ FBox w' gb g 132 ∧ gb < w'.heap.size by
    rw [← e]; exact pa_is 132 W))
  have CF := Lib.hid (fun W {h' : Hs} (hW : NAt T en g A c base h' L1 L2 L3 s0 W) (hb : FBox W gb g 132) => (show Calls Tryz.prog 125 #[.pointer (some ⟨g, 0, none⟩), .func (.func 161) #[] #[.pointer (some ⟨gb, 0, none⟩)]] W fun e w' => e = .returned (.string nv) ∧ Turned T en g A c h' s1 W w' by
    rw [← HEN, hs1, show findTk s = findTk s0 by rw [hs0]; rfl]; exact pa_fresh_is 132 gb (findTk s0) W (Lib.hid hW.pat) (Lib.hid (hW.ftk (AgH.refl _ _))) (Lib.hid hb) HGN.out))
  have C2 := Lib.hid (fun W {h' : Hs} (hW : PAt T en g A c h' s1 W) => (show Calls Tryz.prog 74 #[.pointer (some ⟨g, 0, none⟩), .string ⟨#[123]⟩] W fun e w' => e = .returned (.tuple #[]) ∧ Turned T en g A c h' s2 W w' by
    rw [hs2]; exact pa_want ⟨#[123]⟩ (by decide) W (Lib.hid hW)))
  obtain ⟨R, hR⟩ : ∃ y, y = taskS (ktOf T) s := ⟨_, rfl⟩
  rw [← hR] at HTS ⊢
  have HSM := Lib.hid hN.out.small.len
  clear hw1 hmb hgt hw2 esz hnv hs0 hs1 hs2 hU hgb HEN hR N1 a1 sub1
  go_enter Tryz.func71, Tryz.ntmps71
  go_upto_region 1 with fail
  rw [HW1.out]
  clear b10 f10
  go_upto_region 2 with fail
  rw [HMB.out, HGT.out, HW2.out]
  go_wp2_with fail
  refine (CI.out w2 HGB.out).mono ?_
  rintro e w3 ⟨rfl, hB, hF, _⟩
  have HT3 := Lib.hid (HT2.out.turn (turned_below HT2.out.net.pat hB) (Mv.refl _))
  have HF3 := Lib.hid hF
  clear hB hF CI HT2 HB2
  go_wp2_with fail
  refine (CF.out w3 HT3.out.net HF3.out).mono ?_
  rintro e w5 ⟨rfl, hS⟩
  have HT5 := Lib.hid (HT3.out.turn hS HM1.out)
  have HB5 := Lib.hid HT5.out.box
  clear hS HT3 HF3 CF
  have c1 := row_cell HB5.out 1 _ rfl
  have f1 := frozen_row (o := 1) HB5.out
  have c2 := row_cell HB5.out 2 _ rfl
  have f2 := frozen_row (o := 2) HB5.out
  have c3 := row_cell HB5.out 3 _ rfl
  have f3 := frozen_row (o := 3) HB5.out
  have c4 := row_cell HB5.out 4 _ rfl
  have f4 := frozen_row (o := 4) HB5.out
  have c5 := row_cell HB5.out 5 _ rfl
  have f5 := frozen_row (o := 5) HB5.out
  have c6 := row_cell HB5.out 6 _ rfl
  have f6 := frozen_row (o := 6) HB5.out
  have c7 := row_cell HB5.out 7 _ rfl
  have f7 := frozen_row (o := 7) HB5.out
  have c8 := row_cell HB5.out 8 _ rfl
  have f8 := frozen_row (o := 8) HB5.out
  have c9 := row_cell HB5.out 9 _ rfl
  have f9 := frozen_row (o := 9) HB5.out
  have c10 := row_cell HB5.out 10 _ rfl
  have f10 := frozen_row (o := 10) HB5.out
  have c11 := row_cell HB5.out 11 _ rfl
  have f11 := frozen_row (o := 11) HB5.out
  have c12 := row_cell HB5.out 12 _ rfl
  have f12 := frozen_row (o := 12) HB5.out
  have c13 := row_cell HB5.out 13 _ rfl
  have f13 := frozen_row (o := 13) HB5.out
  have c14 := row_cell HB5.out 14 _ rfl
  have f14 := frozen_row (o := 14) HB5.out
  go_upto_region 3 with fail
  obtain ⟨w6, hw6⟩ : ∃ y, y = ((((((((((((((w5.setCell ⟨gt, 1, none⟩ (.string nv)).setCell ⟨gt, 2, none⟩ (.slice none 0 0)).setCell ⟨gt, 3, none⟩ (.int .i64 1)).setCell ⟨gt, 4, none⟩ (.int .i64 1)).setCell ⟨gt, 5, none⟩ (.slice none 0 0)).setCell ⟨gt, 6, none⟩ (.int .i64 1)).setCell ⟨gt, 7, none⟩ (.int .i64 1)).setCell ⟨gt, 8, none⟩ (.slice none 0 0)).setCell ⟨gt, 9, none⟩ (.slice none 0 0)).setCell ⟨gt, 10, none⟩ (.slice none 0 0)).setCell ⟨gt, 11, none⟩ (.int .i64 0)).setCell ⟨gt, 12, none⟩ (.int .i64 0)).setCell ⟨gt, 13, none⟩ (.int .i64 0)).setCell ⟨gt, 14, none⟩ (.int .i64 0)) := ⟨_, rfl⟩
  rw [← hw6]
  have HT6 := Lib.hid (show TsAt T en g A c base w h gt mb _ L1 L2 L3 { TkV.zero with t := Tk.named nv } [] [] 0 (.map []) ⟨Tk.named nv, [], s1⟩ w6 by rw [hw6]; exact HT5.out.named nv ag_named (box_named HB5.out))
  clear hw6 c1 f1 c2 f2 c3 f3 c4 f4 c5 f5 c6 f6 c7 f7 c8 f8 c9 f9 c10 f10 c11 f11 c12 f12 c13 f13 c14 f14 HB5 HT5
  go_wp2_with fail
  refine (C2.out _ HT6.out.net.pat).mono ?_
  rintro e w7 ⟨rfl, hS⟩
  have HT7 := Lib.hid (HT6.out.turn hS HM2.out)
  clear hS HT6
  go_wp2_with fail
  go_loopg [] (T.length + 1) (fun n wr => ∃ u : Ts, Hid (TsI T en g A c base w h gt mb L1 L2 L3 u wr) ∧ Hid (TsB u) ∧ Hid (clausesP (ktOf T) n u = U) ∧ Hid (u.s.err = 0 → T.length + 1 ≤ u.s.at_ + n))
  case atStart =>
    exact ⟨⟨Tk.named nv, [], s2⟩, Lib.hid ⟨_, _, _, _, _, _, HT7.out, Nat.le_refl _⟩, Lib.hid ⟨Nat.zero_le _, Nat.zero_le _, Nat.zero_le _, Nat.zero_le _, Nat.zero_le _, by show s2.vars.length ≤ s2.at_; rw [(HM1.out.trans HM2.out).vars, HS0.out]; exact Nat.zero_le _⟩, HU, Lib.hid fun _ => by omega⟩
  case round =>
    obtain ⟨u, hI, hB, hUn, hn⟩ := hrel
    obtain ⟨h1, k1, li1, lo1, nm1, D1, t1, hm1⟩ := hI.out
    have HT1 := Lib.hid t1
    have HM1' := Lib.hid hm1
    have c3 := t1.net.blk.c3
    clear hI t1 hm1
    by_cases he : u.s.err = 0
    · have z1 : (u.s.err == 0) = true := by simpa using he
      have CT := Lib.hid (pa_take ⟨#[125]⟩ (by decide) wr (Lib.hid HT1.out.net.pat))
      have HAT := Lib.hid HT1.out.net.at_
      have hn1 := hn.out he
      obtain ⟨n, rfl⟩ : ∃ n, gk = n + 1 := ⟨gk - 1, by have := HAT.out; omega⟩
      rcases htb : takeB (ktOf T) ⟨#[125]⟩ u.s with _ | _
      · rw [htb, show takeP (ktOf T) ⟨#[125]⟩ u.s = u.s from take_false htb] at CT
        have HUo := Lib.hid ((clauses_one n u he htb).symm.trans hUn.out)
        have HG := Lib.hid (one_goes (K := (ktOf T)) u hB.out)
        have HNX := Lib.hid (show (oneP (ktOf T) u).s.err = 0 → T.length + 1 ≤ (oneP (ktOf T) u).s.at_ + n from fun e => by
          rcases HG.out.2 with q | q
          · exact absurd e q
          · omega)
        have HTSS := Lib.hid (show TsS u from ⟨by rw [HT1.out.net.e1, ← hN.out.e1]; exact hb.out.1, by rw [HT1.out.net.e2, ← hN.out.e2]; exact hb.out.2.1, by have := hB.out.vars; have := HAT.out; have := HSM.out; omega, by have := hB.out.ins; have := HAT.out; have := HSM.out; omega, by have := hB.out.outs; have := HAT.out; have := HSM.out; omega, by have := hB.out.cancel; have := HAT.out; have := HSM.out; omega, by have := hB.out.pv; have := HAT.out; have := HSM.out; omega⟩)
        have HHL := Lib.hid (show u.had.length ≤ 1000000 by have := hB.out.had; have := HAT.out; have := HSM.out; omega)
        obtain ⟨u2, hu2⟩ : ∃ y, y = oneP (ktOf T) u := ⟨_, rfl⟩
        have C1 := Lib.hid (fun W (hW : TsAt T en g A c base w h gt mb h1 L1 L2 L3 k1 li1 lo1 nm1 D1 u W) => (show Calls Tryz.prog 133 #[.pointer (some ⟨gt, 0, none⟩)] W fun e w' => e = .returned (.tuple #[]) ∧ TsI T en g A c base w h gt mb L1 L2 L3 u2 w' by rw [hu2]; exact pa_one W (Lib.hid hW) HM1'.out HTSS HHL))
        rw [← hu2] at HUo HG HNX
        clear he hn1 htb hu2 hUn
        go_wp2_with fail
        refine CT.out.mono ?_
        rintro e wa ⟨rfl, hS⟩
        have HTa := Lib.hid (HT1.out.turn hS (Mv.refl _))
        clear hS c3 CT
        go_wp2_with fail
        refine (C1.out wa HTa.out).mono ?_
        rintro e wb ⟨rfl, hI⟩
        have HI := Lib.hid hI
        clear hI
        go_wp2_with fail
        go_roundg n
        case measure => omega
        case rel => exact ⟨u2, HI, Lib.hid HG.out.1, HUo, HNX⟩
      · rw [htb, show takeP (ktOf T) ⟨#[125]⟩ u.s = stepP u.s from take_true htb] at CT
        have HUU := Lib.hid (show U = { u with s := stepP u.s } from hUn.out.symm.trans (clauses_take n u he htb))
        have HMS := Lib.hid (mv_step (K := (ktOf T)) (take_lt (by decide) htb).2)
        clear he hn1 htb hUn
        go_wp2_with fail
        refine CT.out.mono ?_
        rintro e wa ⟨rfl, hS⟩
        have HTa := Lib.hid (HT1.out.turn hS HMS.out)
        clear hS c3 CT
        have HX1 := Lib.hid HTa.out.drew
        have HK1 := Lib.hid HX1.out.tkv
        have HOW := Lib.hid HTa.out.net.r3.own
        have HLB := Lib.hid HTa.out.net.lb
        have HLL := Lib.hid (show L3.length ≤ 1000000 by have := hb.out.2.2; rw [hN.out.e3, List.length_map] at this; exact this)
        have b7 := HTa.out.net.blk.c7
        have b7a := fun o => cell_kept (alrB _ o) b7
        have HBK := Lib.hid HTa.out.box
        have d1 := row_cell HBK.out 1 _ rfl
        have d2 := row_cell HBK.out 2 _ rfl
        have d3 := row_cell HBK.out 3 _ rfl
        have d4 := row_cell HBK.out 4 _ rfl
        have d5 := row_cell HBK.out 5 _ rfl
        have d6 := row_cell HBK.out 6 _ rfl
        have d7 := row_cell HBK.out 7 _ rfl
        have d8 := row_cell HBK.out 8 _ rfl
        have d9 := row_cell HBK.out 9 _ rfl
        have d10 := row_cell HBK.out 10 _ rfl
        have d11 := row_cell HBK.out 11 _ rfl
        have d12 := row_cell HBK.out 12 _ rfl
        have d13 := row_cell HBK.out 13 _ rfl
        have d14 := row_cell HBK.out 14 _ rfl
        go_wp2_with fail
        go_region_law (first
          | (refine step_append_sl tks_ty rfl (.tmp 39) (.tmp 44) rfl base rfl (by first | exact own_drew (HOW.out.alloc _) | exact (own_drew HOW.out).alloc _ | exact HOW.out.alloc _) rfl (by exact Sl.new _ _ [.string k1.t.name, .slice k1.Av k1.nv k1.cv, .int .i64 k1.t.guard.kind, .int .i64 k1.t.guard.num, .slice k1.Ag k1.mg k1.cg, .int .i64 k1.t.join, .int .i64 k1.t.split, .slice k1.Ai k1.ni k1.ci, .slice k1.Ao k1.no k1.co, .slice k1.Ac k1.nc k1.cc, .int .i64 k1.t.after, .int .i64 k1.t.m0, .int .i64 k1.t.m1, .int .i64 k1.t.m2] 1 14 rfl (by omega)) (tkv_one k1) (by have := HLL.out; omega) (by have := HLL.out; omega) (by have := HLB.out; simp; omega) ?_; intro v9 w9 hown9 hg9 hat9; obtain ⟨A4, c4, rfl, _, _⟩ := own_form hown9
             have P9 := (HX1.out.net.blk.below (alrB _ _)).keep ((AgH.refl _ _).grown (H := fun i => h1.V3.ownBlock = some i) hg9 fun i e _ => e) HX1.out.net.ne3
             have o9 := P9.c7
             have f9 := P9.froz 7
             have HST := Lib.hid (HX1.out.net.push3 _ k1 HK1.out hown9 hg9 hat9)
             clear hown9 hg9 hat9 P9))
        all_goals
          go_wp2
          refine bodyPost_end (results_none rfl _ _ _) rfl ⟨rfl, ?_⟩
          obtain ⟨N9, a9, sub9⟩ := HST.out
          rw [HX1.out.et] at N9
          rw [HTS.out, HUU.out]
          refine ⟨_, _, _, _, N9, ?_, ?_⟩
          · exact HX1.out.ag.then_ a9 fun i hi e => HX1.out.sub i hi e
          · exact fun i hi e => HX1.out.sub i hi (sub9 i (Nat.lt_of_lt_of_le hi HX1.out.ag.size) e)
    · have z1 : (u.s.err == 0) = false := by simpa using he
      have HUU := Lib.hid (show U = u from hUn.out.symm.trans (clauses_stuck _ u he))
      clear he hUn
      have HX1 := Lib.hid HT1.out.drew
      have HK1 := Lib.hid HX1.out.tkv
      have HOW := Lib.hid HT1.out.net.r3.own
      have HLB := Lib.hid HT1.out.net.lb
      have HLL := Lib.hid (show L3.length ≤ 1000000 by have := hb.out.2.2; rw [hN.out.e3, List.length_map] at this; exact this)
      have b7 := HT1.out.net.blk.c7
      have b7a := fun o => cell_kept (alrB _ o) b7
      have HBK := Lib.hid HT1.out.box
      have d1 := row_cell HBK.out 1 _ rfl
      have d2 := row_cell HBK.out 2 _ rfl
      have d3 := row_cell HBK.out 3 _ rfl
      have d4 := row_cell HBK.out 4 _ rfl
      have d5 := row_cell HBK.out 5 _ rfl
      have d6 := row_cell HBK.out 6 _ rfl
      have d7 := row_cell HBK.out 7 _ rfl
      have d8 := row_cell HBK.out 8 _ rfl
      have d9 := row_cell HBK.out 9 _ rfl
      have d10 := row_cell HBK.out 10 _ rfl
      have d11 := row_cell HBK.out 11 _ rfl
      have d12 := row_cell HBK.out 12 _ rfl
      have d13 := row_cell HBK.out 13 _ rfl
      have d14 := row_cell HBK.out 14 _ rfl
      go_wp2_with fail
      go_region_law (first
        | (refine step_append_sl tks_ty rfl (.tmp 39) (.tmp 44) rfl base rfl (by first | exact own_drew (HOW.out.alloc _) | exact (own_drew HOW.out).alloc _ | exact HOW.out.alloc _) rfl (by exact Sl.new _ _ [.string k1.t.name, .slice k1.Av k1.nv k1.cv, .int .i64 k1.t.guard.kind, .int .i64 k1.t.guard.num, .slice k1.Ag k1.mg k1.cg, .int .i64 k1.t.join, .int .i64 k1.t.split, .slice k1.Ai k1.ni k1.ci, .slice k1.Ao k1.no k1.co, .slice k1.Ac k1.nc k1.cc, .int .i64 k1.t.after, .int .i64 k1.t.m0, .int .i64 k1.t.m1, .int .i64 k1.t.m2] 1 14 rfl (by omega)) (tkv_one k1) (by have := HLL.out; omega) (by have := HLL.out; omega) (by have := HLB.out; simp; omega) ?_; intro v9 w9 hown9 hg9 hat9; obtain ⟨A4, c4, rfl, _, _⟩ := own_form hown9
           have P9 := (HX1.out.net.blk.below (alrB _ _)).keep ((AgH.refl _ _).grown (H := fun i => h1.V3.ownBlock = some i) hg9 fun i e _ => e) HX1.out.net.ne3
           have o9 := P9.c7
           have f9 := P9.froz 7
           have HST := Lib.hid (HX1.out.net.push3 _ k1 HK1.out hown9 hg9 hat9)
           clear hown9 hg9 hat9 P9))
      all_goals
        go_wp2
        refine bodyPost_end (results_none rfl _ _ _) rfl ⟨rfl, ?_⟩
        obtain ⟨N9, a9, sub9⟩ := HST.out
        rw [HX1.out.et] at N9
        rw [HTS.out, HUU.out]
        refine ⟨_, _, _, _, N9, ?_, ?_⟩
        · exact HX1.out.ag.then_ a9 fun i hi e => HX1.out.sub i hi e
        · exact fun i hi e => HX1.out.sub i hi (sub9 i (Nat.lt_of_lt_of_le hi HX1.out.ag.size) e)
end
end Go.Proofs.YtkpjhjoopdbkaaaGreatDoor
