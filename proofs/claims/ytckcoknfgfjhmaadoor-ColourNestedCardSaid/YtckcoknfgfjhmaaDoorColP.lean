/- Law 02: small. -/
import Derived.Test.YtckcoknfgfjhmaaDoorColO
namespace Go.Proofs.YtckcoknfgfjhmaaDoor
open Go.RowKit
set_option maxRecDepth 100000 in
set_option maxHeartbeats 4000000 in
theorem law02_small (w : World) :
    Calls Tryd.prog 4 #[] w fun e w' => e = .returned (.bool true) ∧ Below w.heap.size w w' := by
  have e1 : sizeAt someL 2 = 6 := by decide +kernel
  have e2 : partsV someL 3 5 = .tuple #[.int .i64 0, .int .i64 5, .bool true] := by
    unfold partsV
    rw [show partsP someL 3 5 = some (0, 5) by decide +kernel]
  have e3 : (sizesF someL).isSome = true := by rw [some_sizes]; rfl
  have e4 : nameOk (⟨#[97, 95, 49]⟩ : ByteArray).data.toList = true := by decide +kernel
  have e5 : nameOk (⟨#[49, 97]⟩ : ByteArray).data.toList = false := by decide +kernel
  have HZ := Lib.hid some_sizes
  have cN1 := fun W => Lib.hid (col_Name' ⟨#[97, 95, 49]⟩ W)
  have cN2 := fun W => Lib.hid (col_Name' ⟨#[49, 97]⟩ W)
  rw [e4] at cN1
  rw [e5] at cN2
  have E1 := Lib.hid e1
  have E2 := Lib.hid e2
  have E3 := Lib.hid e3
  clear e1 e2 e3 e4 e5
  go_enter Tryd.func4, Tryd.ntmps4
  go_wp2_with fail
  refine (law02_some w).mono ?_
  rintro e w1 ⟨g, rfl, H1, HB1⟩
  go_wp2_with fail
  refine (col_Read_ok 2 ⟨#[40, 52, 44, 98, 108, 117, 101, 41]⟩ 3 w1 H1 HZ (by decide) (fun B d W h => Lib.hid (sm_read2 W h))).mono ?_
  rintro e w2 ⟨rfl, hb2⟩
  have H2 := Lib.hid (H1.out.below hb2)
  have HB2 := Lib.hid (below_then HB1.out hb2)
  clear hb2 HB1 H1
  go_wp2_with fail
  refine (col_Number_int 0 2 w2 H2 HZ (by decide) (by decide) (by decide) (Lib.hid rfl) (by decide)).mono ?_
  rintro e w3 ⟨rfl, hb3⟩
  have H3 := Lib.hid (H2.out.below hb3)
  have HB3 := Lib.hid (below_then HB2.out hb3)
  clear hb3 HB2 H2
  go_wp2_with fail
  refine (col_Read_ok 3 ⟨#[40, 40, 51, 44, 114, 101, 100, 41, 44, 40, 53, 44, 98, 108, 117, 101, 41, 41]⟩ 5 w3 H3 HZ (by decide) (fun B d W h => Lib.hid (sm_read3 W h))).mono ?_
  rintro e w4 ⟨rfl, hb4⟩
  have H4 := Lib.hid (H3.out.below hb4)
  have HB4 := Lib.hid (below_then HB3.out hb4)
  clear hb4 HB3 H3
  go_wp2_with fail
  refine (col_Parts _ 4 4 someL 3 5 w4 H4 (by decide)).mono ?_
  rintro e w5 ⟨rfl, hb5⟩
  rw [E2.out]
  have H5 := Lib.hid (H4.out.below hb5)
  have HB5 := Lib.hid (below_then HB4.out hb5)
  clear hb5 HB4 H4
  go_wp2_with (first
    | (go_at_call 6; refine (col_Right _ 4 4 someL _ H5).mono ?_; rintro e w6 ⟨rfl, hb6⟩; rw [E3.out]; have H6 := Lib.hid (H5.out.below hb6); have HB6 := Lib.hid (below_then HB5.out hb6); clear hb6)
    | (go_at_call 7; refine (col_Size _ 4 4 someL 2 _ H6).mono ?_; rintro e w7 ⟨rfl, hb7⟩; rw [E1.out]; have H7 := Lib.hid (H6.out.below hb7); have HB7 := Lib.hid (below_then HB6.out hb7); clear hb7)
    | (go_at_call_of 12 (Value.int .i64 2); refine (col_Text_ok 2 3 ⟨#[40, 52, 44, 98, 108, 117, 101, 41]⟩ _ H7 HZ (by decide) (by decide) (by decide) (fun B d W h => Lib.hid (sm_text2 W h))).mono ?_; rintro e w8 ⟨rfl, hb8⟩; have H8 := Lib.hid (H7.out.below hb8); have HB8 := Lib.hid (below_then HB7.out hb8); clear hb8)
    | (go_at_call_of 13 (Value.string ⟨#[97, 95, 49]⟩); refine (cN1 _).out.mono ?_; rintro e w9 ⟨rfl, rfl⟩)
    | (go_at_call_of 13 (Value.string ⟨#[49, 97]⟩); refine (cN2 _).out.mono ?_; rintro e w9 ⟨rfl, rfl⟩)
    | (go_at_call_of 12 (Value.int .i64 0); refine (col_Text_no 0 3 _ H8 HZ (by decide) (by decide) (by decide)).mono ?_; rintro e w10 ⟨rfl, hb10⟩; have HB10 := Lib.hid (below_then HB8.out hb10); clear hb10))
  go_ret
  exact ⟨rfl, HB10.out⟩
end Go.Proofs.YtckcoknfgfjhmaaDoor
