/- Law 02: the small case's texts. -/
import Derived.Test.YtckcoknfgfjhmaaDoorColN
namespace Go.Proofs.YtckcoknfgfjhmaaDoor
open Go.RowKit
def sRed : ByteArray := ⟨#[114, 101, 100]⟩
def sBlue : ByteArray := ⟨#[98, 108, 117, 101]⟩
def s4b : ByteArray := ⟨#[40, 52, 44, 98, 108, 117, 101, 41]⟩
def s3r : ByteArray := ⟨#[40, 51, 44, 114, 101, 100, 41]⟩
def s5b : ByteArray := ⟨#[40, 53, 44, 98, 108, 117, 101, 41]⟩
def sAll : ByteArray := ⟨#[40, 40, 51, 44, 114, 101, 100, 41, 44, 40, 53, 44, 98, 108, 117, 101, 41, 41]⟩
theorem cut4 : CutTo s4b ⟨#[52]⟩ sBlue := ⟨⟨⟨#[52, 44, 98, 108, 117, 101, 41]⟩, ⟨#[52, 44, 98, 108, 117, 101]⟩, 1, by decide +kernel, by decide +kernel, by decide +kernel, by decide +kernel, by decide +kernel, by decide +kernel, by decide +kernel, by decide +kernel, by decide +kernel, by decide +kernel⟩⟩
theorem cut3 : CutTo s3r ⟨#[51]⟩ sRed := ⟨⟨⟨#[51, 44, 114, 101, 100, 41]⟩, ⟨#[51, 44, 114, 101, 100]⟩, 1, by decide +kernel, by decide +kernel, by decide +kernel, by decide +kernel, by decide +kernel, by decide +kernel, by decide +kernel, by decide +kernel, by decide +kernel, by decide +kernel⟩⟩
theorem cut5 : CutTo s5b ⟨#[53]⟩ sBlue := ⟨⟨⟨#[53, 44, 98, 108, 117, 101, 41]⟩, ⟨#[53, 44, 98, 108, 117, 101]⟩, 1, by decide +kernel, by decide +kernel, by decide +kernel, by decide +kernel, by decide +kernel, by decide +kernel, by decide +kernel, by decide +kernel, by decide +kernel, by decide +kernel⟩⟩
theorem cutA : CutTo sAll s3r s5b := ⟨⟨⟨#[40, 51, 44, 114, 101, 100, 41, 44, 40, 53, 44, 98, 108, 117, 101, 41, 41]⟩, ⟨#[40, 51, 44, 114, 101, 100, 41, 44, 40, 53, 44, 98, 108, 117, 101, 41]⟩, 7, by decide +kernel, by decide +kernel, by decide +kernel, by decide +kernel, by decide +kernel, by decide +kernel, by decide +kernel, by decide +kernel, by decide +kernel, by decide +kernel⟩⟩
section
variable {A B : Option Addr} {c d : Nat}
theorem sm_r0 (v : Nat) (t : ByteArray) (x : Int) (w : World) (hS : Hid (SetOk w A 4 c someL B d someS)) (h3 : 3 ≤ v) (h5 : v ≤ 5) (ht : t.size ≤ 18) (ha : Lib.atoi t.data.toList = some (v : Int)) (hd : (⟨(Lib.decDigits v).toArray⟩ : ByteArray) = t) (hx : (v : Int) - 3 = x) :
    Calls Tryd.prog 19 #[setV A 4 c B d 0, .string t] w fun e w' => e = .returned (.tuple #[.int .i64 x, .bool true]) ∧ Below w.heap.size w w' := by
  subst hx
  exact col_read_int 0 v t w hS (by decide) (Lib.hid rfl) (by show (3 : Int) ≤ v; omega) (by show (v : Int) ≤ 5; omega) (by omega) ht ha hd (by show I64 ((v : Int) - 3); unfold I64; omega)
theorem sm_r1 (j : Nat) (t : ByteArray) (w : World) (hS : Hid (SetOk w A 4 c someL B d someS)) (hj : Hid (Lib.idxOfS [sRed, sBlue] t = (j : Int))) :
    Calls Tryd.prog 19 #[setV A 4 c B d 1, .string t] w fun e w' => e = .returned (.tuple #[.int .i64 (j : Int), .bool true]) ∧ Below w.heap.size w w' :=
  col_read_enum 1 j t w hS (by decide) (Lib.hid rfl) (by decide) hj
theorem sm_r2 (v j : Nat) (t a b : ByteArray) (x : Int) (w : World) (hS : Hid (SetOk w A 4 c someL B d someS)) (hc : CutTo t a b) (h3 : 3 ≤ v) (h5 : v ≤ 5) (ht : a.size ≤ 18) (ha : Lib.atoi a.data.toList = some (v : Int)) (hd : (⟨(Lib.decDigits v).toArray⟩ : ByteArray) = a) (hj : Hid (Lib.idxOfS [sRed, sBlue] b = (j : Int))) (hj2 : j ≤ 1) (hx : ((v : Int) - 3) * 2 + j = x) :
    Calls Tryd.prog 19 #[setV A 4 c B d 2, .string t] w fun e w' => e = .returned (.tuple #[.int .i64 x, .bool true]) ∧ Below w.heap.size w w' := by
  subst hx
  exact col_read_pair 2 0 1 t a b ((v : Int) - 3) (j : Int) w hS (by decide) (Lib.hid rfl) (Lib.hid rfl) (Lib.hid rfl) (by decide) (Lib.hid hc)
    (fun W h => Lib.hid (sm_r0 v a _ W (Lib.hid (hS.out.below h)) h3 h5 ht ha hd rfl)) (fun W h => Lib.hid (sm_r1 j b W (Lib.hid (hS.out.below h)) hj))
    (by show I64 (((v : Int) - 3) * 2); unfold I64; omega) (by show I64 (((v : Int) - 3) * 2 + j); unfold I64; omega)
theorem sm_read2 (w : World) (hS : Hid (SetOk w A 4 c someL B d someS)) : Calls Tryd.prog 19 #[setV A 4 c B d 2, .string s4b] w fun e w' => e = .returned (.tuple #[.int .i64 3, .bool true]) ∧ Below w.heap.size w w' :=
  sm_r2 4 1 s4b ⟨#[52]⟩ sBlue 3 w hS cut4 (by decide) (by decide) (by decide) (by decide +kernel) (by decide +kernel) (Lib.hid (by decide +kernel)) (by decide) (by decide)
theorem sm_read3 (w : World) (hS : Hid (SetOk w A 4 c someL B d someS)) : Calls Tryd.prog 19 #[setV A 4 c B d 3, .string sAll] w fun e w' => e = .returned (.tuple #[.int .i64 5, .bool true]) ∧ Below w.heap.size w w' := by
  have h := col_read_pair 3 2 2 sAll s3r s5b 0 5 w hS (by decide) (Lib.hid rfl) (Lib.hid rfl) (Lib.hid rfl) (by decide) (Lib.hid cutA)
    (fun W h => Lib.hid (sm_r2 3 0 s3r ⟨#[51]⟩ sRed 0 W (Lib.hid (hS.out.below h)) cut3 (by decide) (by decide) (by decide) (by decide +kernel) (by decide +kernel) (Lib.hid (by decide +kernel)) (by decide) (by decide)))
    (fun W h => Lib.hid (sm_r2 5 1 s5b ⟨#[53]⟩ sBlue 5 W (Lib.hid (hS.out.below h)) cut5 (by decide) (by decide) (by decide) (by decide +kernel) (by decide +kernel) (Lib.hid (by decide +kernel)) (by decide) (by decide)))
    (by decide) (by decide)
  exact h
theorem sm_text2 (w : World) (hS : Hid (SetOk w A 4 c someL B d someS)) : Calls Tryd.prog 20 #[setV A 4 c B d 2, .int .i64 3] w fun e w' => e = .returned (.string s4b) ∧ Below w.heap.size w w' := by
  have h := col_text_pair 2 0 1 3 ⟨#[52]⟩ sBlue w hS (by decide) (Lib.hid rfl) (Lib.hid rfl) (Lib.hid rfl) (by decide) (by decide) (by decide) (by decide) (by decide) (by decide)
    (fun W h => Lib.hid (by
      have := col_text_int (A := A) (c := c) (B := B) (d := d) 0 4 1 W (Lib.hid (hS.out.below h)) (by decide) (Lib.hid rfl) (Lib.hid rfl) (by decide)
      rw [show (⟨(Lib.decDigits 4).toArray⟩ : ByteArray) = ⟨#[52]⟩ by decide +kernel] at this
      exact this))
    (fun W h => Lib.hid (col_text_enum (A := A) (c := c) (B := B) (d := d) 1 1 W (Lib.hid (hS.out.below h)) (by decide) (Lib.hid rfl) (by decide)))
  rw [show (⟨#[40]⟩ ++ ⟨#[52]⟩ ++ ⟨#[44]⟩ ++ sBlue ++ ⟨#[41]⟩ : ByteArray) = s4b by decide +kernel] at h
  exact h
end
end Go.Proofs.YtckcoknfgfjhmaaDoor
