/- Contract of law 05's small case. -/
import Derived.Test.YtcbmaclhocdejaaDoorTokI
namespace Go.Proofs.YtcbmaclhocdejaaDoor
open Go.RowKit
def smallToks : List Tok := [⟨1, ⟨#[97]⟩, 0⟩, ⟨3, ⟨#[60, 61]⟩, 1⟩, ⟨2, ⟨#[49]⟩, 3⟩, ⟨3, ⟨#[46, 46]⟩, 4⟩, ⟨2, ⟨#[50]⟩, 6⟩]
theorem small_1 : lexR [97, 60, 61, 49, 46, 46, 50, 32, 35, 32, 120] = (smallToks, 11, 0) := by kernel_rfl
theorem small_2 : (lexR [97, 32, 48, 49]).2 = (2, 4) := by kernel_rfl
theorem small_3 : (lexR [97, 32, 36]).2 = (2, 4) := by kernel_rfl
theorem small_4 : (lexR [57, 57, 57, 57, 57, 57, 57, 57, 57, 57, 57, 57, 57, 57, 57, 57, 57, 57, 57, 57]).2 = (0, 6) := by kernel_rfl
theorem small_5 : numV [52, 50] = 42 ∧ numOk [52, 50] = true := by constructor <;> kernel_rfl
theorem small_6 : isWord ⟨#[120, 111, 114]⟩ = true ∧ isWord ⟨#[120]⟩ = false := by constructor <;> kernel_rfl
theorem small_7 : joinL smallToks = [97, 32, 60, 61, 32, 49, 32, 46, 46, 32, 50] := by kernel_rfl
theorem sm_lex (s : ByteArray) (w : World) (a b : Int) (hs : s.size ≤ 9223372036854775805) (h : ((lexR s.data.toList).2.1 : Int) = a ∧ (lexR s.data.toList).2.2 = b) :
    Calls Tryd.prog 8 #[.string s] w fun e w' => ∃ v, e = .returned (.tuple #[v, .int .i64 a, .int .i64 b]) ∧ Below w.heap.size w w' := by
  refine (tok_Lex s w hs).mono ?_
  rintro e w' ⟨v, rfl, _, hb⟩
  exact ⟨v, by rw [h.1, h.2], hb⟩
theorem sm_lex1 (w : World) :
    Calls Tryd.prog 8 #[.string ⟨#[97, 60, 61, 49, 46, 46, 50, 32, 35, 32, 120]⟩] w fun e w' => ∃ A c, e = .returned (.tuple #[.slice A 5 c, .int .i64 11, .int .i64 0]) ∧ Hid (Sl w' (.slice A 5 c) 5 3 (toksCells smallToks)) ∧ Below w.heap.size w w' := by
  refine (tok_Lex _ w (by decide)).mono ?_
  rintro e w' ⟨v, rfl, hs, hb⟩
  have e1 : lexR (⟨#[97, 60, 61, 49, 46, 46, 50, 32, 35, 32, 120]⟩ : ByteArray).data.toList = (smallToks, 11, 0) := small_1
  rw [e1] at hs ⊢
  obtain ⟨A, c, rfl, _, _, h⟩ := hs.form
  exact ⟨A, c, rfl, Lib.hid h, hb⟩
theorem small_cells {w : World} {A : Option Addr} {c : Nat} (h : Sl w (.slice A 5 c) 5 3 (toksCells smallToks)) :
    ∃ b off, A = some ⟨b, off, none⟩ ∧ w.cell? ⟨b, off + 3, none⟩ = some (.int .i64 3) ∧ w.cell? ⟨b, off + 3 + 1, none⟩ = some (.string ⟨#[60, 61]⟩) ∧ w.cell? ⟨b, off + 3 + 2, none⟩ = some (.int .i64 1) ∧ w.cell? ⟨b, off + 9 + 1, none⟩ = some (.string ⟨#[46, 46]⟩) := by
  obtain ⟨b, off, rfl, hbs, p0, p1, p2⟩ := h.tok (k := 1) (by decide)
  obtain ⟨b', off', he, _, _, q1, _⟩ := h.tok (k := 3) (by decide)
  injection he with he; injection he with he1 he2; subst he1; subst he2
  exact ⟨b, off, rfl, p0, p1, p2, q1⟩
theorem sm_num (w : World) : Calls Tryd.prog 10 #[.string ⟨#[52, 50]⟩] w fun e w' => e = .returned (.tuple #[.int .i64 42, .bool true]) ∧ w = w' := by
  have h := tok_Number ⟨#[52, 50]⟩ w (by decide)
  have e1 : numV (⟨#[52, 50]⟩ : ByteArray).data.toList = 42 := small_5.1
  have e2 : numOk (⟨#[52, 50]⟩ : ByteArray).data.toList = true := small_5.2
  rw [e1, e2] at h
  exact h
theorem sm_word (s : ByteArray) (b : Bool) {w : World} (ht : Hid (TabOk w)) (h : isWord s = b) : Calls Tryd.prog 12 #[.string s] w fun e w' => e = .returned (.bool b) ∧ Below w.heap.size w w' := by
  have h1 := tok_Word s w ht
  rw [h] at h1
  exact h1
set_option maxRecDepth 100000 in
set_option maxHeartbeats 4000000 in
theorem law_small (w : World) (ht : Hid (TabOk w)) :
    Calls Tryd.prog 7 #[] w fun e w' => e = .returned (.bool true) ∧ Below w.heap.size w w' := by
  go_enter Tryd.func7, Tryd.ntmps7
  go_wp2_with fail
  refine (sm_lex1 _).mono ?_
  rintro e w1 ⟨A, c, rfl, hsl1, hb1⟩
  have HB1 := Lib.hid hb1
  clear hb1
  go_wp2_with fail
  refine (sm_lex _ _ 2 4 (by decide) (by constructor <;> kernel_rfl)).mono ?_
  rintro e w2 ⟨v2, rfl, hb2⟩
  have HB2 := Lib.hid (below_then HB1.out hb2)
  have hsl2 := Lib.hid (hsl1.out.below hb2)
  clear HB1 hb2 hsl1
  go_wp2_with fail
  refine (sm_lex _ _ 2 4 (by decide) (by constructor <;> kernel_rfl)).mono ?_
  rintro e w3 ⟨v3, rfl, hb3⟩
  have HB3 := Lib.hid (below_then HB2.out hb3)
  have hsl3 := Lib.hid (hsl2.out.below hb3)
  clear HB2 hb3 hsl2
  go_wp2_with fail
  refine (sm_lex _ _ 0 6 (by decide) (by constructor <;> kernel_rfl)).mono ?_
  rintro e w4 ⟨v4, rfl, hb4⟩
  have HB4 := Lib.hid (below_then HB3.out hb4)
  have hsl4 := Lib.hid (hsl3.out.below hb4)
  clear HB3 hb4 hsl3
  obtain ⟨b, off, rfl, p0, p1, p2, q1⟩ := small_cells hsl4.out
  go_wp2_with fail
  refine (sm_num _).mono ?_
  rintro e w5 ⟨rfl, rfl⟩
  go_wp2_with fail
  refine (sm_word _ true (ht.out.below (HB4.out.mono (Nat.le_refl _)) |> Lib.hid) small_6.1).mono ?_
  rintro e w5 ⟨rfl, hb5⟩
  have HB5 := Lib.hid (below_then HB4.out hb5)
  have hsl5 := Lib.hid (hsl4.out.below hb5)
  clear HB4 hb5 hsl4 p0 p1 p2 q1
  go_wp2_with fail
  refine (sm_word _ false (ht.out.below HB5.out |> Lib.hid) small_6.2).mono ?_
  rintro e w6 ⟨rfl, hb6⟩
  have HB6 := Lib.hid (below_then HB5.out hb6)
  have hsl6 := Lib.hid (hsl5.out.below hb6)
  clear HB5 hb6 hsl5
  go_wp2_with fail
  refine (tok_Join _ smallToks _ hsl6 (Lib.hid (by decide)) (Lib.hid (by decide))).mono ?_
  rintro e w7 ⟨rfl, hb7⟩
  have HB7 := Lib.hid (below_then HB6.out hb7)
  clear HB6 hb7 hsl6
  rw [small_7]
  go_wp2
  go_ret
  exact ⟨rfl, HB7.out⟩
end Go.Proofs.YtcbmaclhocdejaaDoor
