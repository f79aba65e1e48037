/- Law 02: some, small. -/
import Derived.Test.YtckcoknfgfjhmaaDoorColM
namespace Go.Proofs.YtckcoknfgfjhmaaDoor
open Go.RowKit
def someL : List Col := [⟨⟨#[110]⟩, 1, 3, 5, [], 0, 0⟩, ⟨⟨#[99]⟩, 2, 0, 0, [⟨#[114, 101, 100]⟩, ⟨#[98, 108, 117, 101]⟩], 0, 0⟩, ⟨⟨#[112]⟩, 3, 0, 0, [], 0, 1⟩, ⟨⟨#[113]⟩, 3, 0, 0, [], 2, 2⟩]
def someS : List Int := [3, 2, 6, 36]
theorem some_sizes : sizesF someL = some someS := by decide +kernel
def someCells (g : Nat) : Array Value := #[.string ⟨#[110]⟩, .int .i64 1, .int .i64 3, .int .i64 5, .slice none 0 0, .int .i64 0, .int .i64 0,
  .string ⟨#[99]⟩, .int .i64 2, .int .i64 0, .int .i64 0, .slice (some ⟨g, 0, none⟩) 2 2, .int .i64 0, .int .i64 0,
  .string ⟨#[112]⟩, .int .i64 3, .int .i64 0, .int .i64 0, .slice none 0 0, .int .i64 0, .int .i64 1,
  .string ⟨#[113]⟩, .int .i64 3, .int .i64 0, .int .i64 0, .slice none 0 0, .int .i64 2, .int .i64 2]
theorem some_cols (w : World) : Cols ((w.alloc (.cells #[.string ⟨#[114, 101, 100]⟩, .string ⟨#[98, 108, 117, 101]⟩] 9)).alloc (.cells (someCells w.heap.size) 27)) (some ⟨w.heap.size + 1, 0, none⟩) 4 4 someL := by
  have hsz : (w.alloc (.cells #[.string ⟨#[114, 101, 100]⟩, .string ⟨#[98, 108, 117, 101]⟩] 9)).heap.size = w.heap.size + 1 := by simp
  have hn := (Sl.new w 9 [.string ⟨#[114, 101, 100]⟩, .string ⟨#[98, 108, 117, 101]⟩] 2 1 rfl (by decide)).below ((Below.refl _ _).alloc (Nat.le_refl _) (.cells (someCells w.heap.size) 27))
  have hc := fun j u h => cell_new (w.alloc (.cells #[.string ⟨#[114, 101, 100]⟩, .string ⟨#[98, 108, 117, 101]⟩] 9)) (someCells w.heap.size) 27 j u h
  rw [hsz] at hc
  refine ⟨by decide, by decide, rfl, fun _ => ⟨_, 0, rfl, fun k hk => ?_⟩⟩
  have h4 : k = 0 ∨ k = 1 ∨ k = 2 ∨ k = 3 := by omega
  rcases h4 with rfl | rfl | rfl | rfl
  · exact ⟨none, 0, 0, hc 0 _ rfl, hc 1 _ rfl, hc 2 _ rfl, hc 3 _ rfl, hc 4 _ rfl, hc 5 _ rfl, hc 6 _ rfl, Sl.none_ _ 1, by unfold Col.ok I64; decide⟩
  · exact ⟨some ⟨w.heap.size, 0, none⟩, 2, 2, hc 7 _ rfl, hc 8 _ rfl, hc 9 _ rfl, hc 10 _ rfl, hc 11 _ rfl, hc 12 _ rfl, hc 13 _ rfl, hn, by unfold Col.ok I64; decide⟩
  · exact ⟨none, 0, 0, hc 14 _ rfl, hc 15 _ rfl, hc 16 _ rfl, hc 17 _ rfl, hc 18 _ rfl, hc 19 _ rfl, hc 20 _ rfl, Sl.none_ _ 1, by unfold Col.ok I64; decide⟩
  · exact ⟨none, 0, 0, hc 21 _ rfl, hc 22 _ rfl, hc 23 _ rfl, hc 24 _ rfl, hc 25 _ rfl, hc 26 _ rfl, hc 27 _ rfl, Sl.none_ _ 1, by unfold Col.ok I64; decide⟩
set_option maxRecDepth 100000 in
set_option maxHeartbeats 2000000 in
theorem law02_some (w : World) :
    Calls Tryd.prog 9 #[] w fun e w' => ∃ g, e = .returned (.slice (some ⟨g, 0, none⟩) 4 4) ∧ Hid (Cols w' (some ⟨g, 0, none⟩) 4 4 someL) ∧ Hid (Below w.heap.size w w') := by
  have HB := Lib.hid (((Below.refl w.heap.size w).alloc (Nat.le_refl _) (.cells #[.string ⟨#[114, 101, 100]⟩, .string ⟨#[98, 108, 117, 101]⟩] 9)).alloc (by simp) (.cells (someCells w.heap.size) 27))
  have HC := Lib.hid (some_cols w)
  go_enter Tryd.func9, Tryd.ntmps9
  go_wp2
  go_ret
  exact ⟨w.heap.size + 1, rfl, HC.out, HB.out⟩
end Go.Proofs.YtckcoknfgfjhmaaDoor
