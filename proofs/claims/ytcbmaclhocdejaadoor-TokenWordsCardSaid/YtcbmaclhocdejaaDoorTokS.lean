/- The walk of law 05 TokenWords. -/
import Derived.Test.YtcbmaclhocdejaaDoorTokR
import Derived.Test.YtcbmaclhocdejaaDoorTokJ
namespace Go.Proofs.YtcbmaclhocdejaaDoor
open Go.RowKit
theorem words_names : wordL.all nameOk = true := by decide +kernel
/-- One token's cells. -/
theorem one_cells {w : World} {v : Value} {kd : Int} {s : ByteArray} (h : Sl w v 1 3 (toksCells [⟨kd, s, 0⟩])) :
    ∃ b off c, v = .slice (some ⟨b, off, none⟩) 1 c ∧ w.cell? ⟨b, off, none⟩ = some (.int .i64 kd) ∧ w.cell? ⟨b, off + 1, none⟩ = some (.string s) ∧ w.cell? ⟨b, off + 2, none⟩ = some (.int .i64 0) := by
  obtain ⟨A, c, rfl, _, _, h⟩ := h.form
  obtain ⟨b, off, rfl, _, p0, p1, p2⟩ := h.tok (k := 0) (by simp)
  exact ⟨b, off, c, rfl, p0, p1, p2⟩
theorem word_name {s : ByteArray} (h : isWord s = true) : nameOk s.data.toList = true := by
  have h1 : s ∈ wordStrs := (Lib.containsS_iff _ _).1 h
  obtain ⟨l, hl, rfl⟩ := List.mem_map.1 h1
  exact List.all_eq_true.1 words_names l hl
set_option maxRecDepth 100000 in
set_option maxHeartbeats 4000000 in
theorem law_TokenWords (s : ByteArray) (w : World) (ht : Hid (TabOk w)) (hs7 : s.size ≤ 9223372036854775807) :
    Calls Tryd.prog 6 #[.string s] w fun e w' => e = .returned (.bool true) ∧ Below w.heap.size w w' := by
  have hl := Lib.hid (show s.data.toList.length = s.size by simp)
  by_cases h200 : (200 : Int) < (s.size : Int)
  · go_enter Tryd.func6, Tryd.ntmps6
    go_wp2_with (go_at_call 7; refine (law_small _ ht).mono ?_; rintro e w1 ⟨rfl, hb1⟩)
    go_ret
    exact ⟨rfl, hb1⟩
  · have hs : s.size ≤ 9223372036854775805 := by omega
    obtain ⟨R, hR⟩ : ∃ R, R = lexR s.data.toList := ⟨_, rfl⟩
    have cl := fun W => Lib.hid (tok_Lex s W hs)
    rw [← hR] at cl
    have HR := Lib.hid hR
    clear hR
    obtain ⟨no, hno⟩ : ∃ b, b = numOk s.data.toList := ⟨_, rfl⟩
    obtain ⟨nv, hnv⟩ : ∃ b, b = numV s.data.toList := ⟨_, rfl⟩
    have cn := fun W => Lib.hid (tok_Number s W (by omega))
    rw [← hno, ← hnv] at cn
    have hv0 : 0 ≤ nv := by rw [hnv]; exact num_nonneg _
    obtain ⟨nm, hnm⟩ : ∃ b, b = nameOk s.data.toList := ⟨_, rfl⟩
    have cm := fun W => Lib.hid (col_Name s W hs)
    rw [← hnm] at cm
    obtain ⟨wd, hwd⟩ : ∃ b, b = isWord s := ⟨_, rfl⟩
    have cw := fun (W : World) (h : Hid (TabOk W)) => Lib.hid (tok_Word s W h)
    rw [← hwd] at cw
    have f1 : wd = true → nm = true := by rw [hwd, hnm]; exact word_name
    have f2 : no = true → nm = false := by rw [hno, hnm]; exact num_name
    have f3 : no = true ∨ nm = true → R = ([⟨if no then 2 else 1, s, 0⟩], s.size, 0) := by
      intro h
      rw [HR.out, lex_one (by rw [← hno, ← hnm]; exact h) (by rw [hl.out]; omega), hno, hl.out]
    have F1 := Lib.hid f1
    have F2 := Lib.hid f2
    have F3 := Lib.hid f3
    clear f1 f2 f3 hno hnv hnm hwd HR
    go_enter Tryd.func6, Tryd.ntmps6
    go_wp2_with fail
    refine (law_small _ ht).mono ?_
    rintro e w1 ⟨rfl, hb1⟩
    have HB1 := Lib.hid hb1
    clear hb1
    go_wp2_with fail
    refine (cl _).out.mono ?_
    rintro e w2 ⟨v2, rfl, hsl2, hb2⟩
    have HB2 := Lib.hid (below_then HB1.out hb2)
    have HT2 : Hid (TabOk w2) := Lib.hid (ht.out.below HB2.out)
    have hsl2 := Lib.hid hsl2
    clear HB1 hb2 
    go_wp2_with fail
    refine (cn _).out.mono ?_
    rintro e w3 ⟨rfl, rfl⟩
    go_wp2_with fail
    refine (cw _ HT2).out.mono ?_
    rintro e w3 ⟨rfl, hb3⟩
    have HB3 := Lib.hid (below_then HB2.out hb3)
    have hsl3 := Lib.hid (hsl2.out.below hb3)
    clear HB2 hb3 hsl2
    rcases no with _ | _
    · rcases nm with _ | _
      · rcases wd with _ | _
        · go_wp2_with ((go_at_call 11; refine (cm _).out.mono ?_; rintro e w' ⟨rfl, rfl⟩))
          go_ret
          exact ⟨rfl, HB3.out⟩
        · cases F1.out rfl
      · obtain rfl := F3.out (.inr rfl)
        obtain ⟨b, off, c, rfl, p0, p1, p2⟩ := one_cells hsl3.out
        have p0 : w3.cell? ⟨b, off, none⟩ = some (.int .i64 1) := p0
        rcases wd with _ | _
        · go_wp2_with ((go_at_call 11; refine (cm _).out.mono ?_; rintro e w' ⟨rfl, rfl⟩))
          go_ret
          exact ⟨ret1b (by simp), HB3.out⟩
        · go_wp2_with ((go_at_call 11; refine (cm _).out.mono ?_; rintro e w' ⟨rfl, rfl⟩))
          go_ret
          exact ⟨ret1b (by simp), HB3.out⟩
    · rcases nm with _ | _
      · obtain rfl := F3.out (.inl rfl)
        obtain ⟨b, off, c, rfl, p0, p1, p2⟩ := one_cells hsl3.out
        have p0 : w3.cell? ⟨b, off, none⟩ = some (.int .i64 2) := p0
        rcases wd with _ | _
        · go_wp2_with ((go_at_call 11; refine (cm _).out.mono ?_; rintro e w' ⟨rfl, rfl⟩))
          go_ret
          exact ⟨ret1b (by simp), HB3.out⟩
        · cases F1.out rfl
      · cases F2.out rfl
end Go.Proofs.YtcbmaclhocdejaaDoor
