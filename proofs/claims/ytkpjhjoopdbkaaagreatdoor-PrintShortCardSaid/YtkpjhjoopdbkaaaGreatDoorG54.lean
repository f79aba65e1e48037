/- Joined: Plain laws of print: what was parsed, and written, is parsed as it was. Package print: Clauses, Task; the law's small net. Printed by gen_prN.py. -/
import Derived.Test.YtkpjhjoopdbkaaaGreatDoorG52
import Derived.Test.YtkpjhjoopdbkaaaGreatDoorG25
import Derived.Test.YtkpjhjoopdbkaaaGreatDoorG53
import Derived.Test.YtkpjhjoopdbkaaaGreatDoorG51
import Derived.Deep.RegionHeld3
namespace Go.Proofs.YtkpjhjoopdbkaaaGreatDoor
/-- Names among a text's tokens are names. -/
theorem lex_names {l : List UInt8} (hl : l.length ≤ 16384) : ∀ x ∈ ktOf (lexR l).1, x.1 = 1 → nameOk x.2.data.toList = true := by
  intro x hx h1
  unfold ktOf at hx
  obtain ⟨t, ht, rfl⟩ := List.mem_map.1 hx
  rw [lexR_O l hl] at ht
  obtain ⟨c, q, e1, e2, e3, e4, _, _⟩ := lexO_alone _ _ _ t ht
  have h := (nx_what e2 e3).2.2.2
  have h1' : t.kind = 1 := h1
  rw [e4, h1'] at h
  show nameOk t.text.data.toList = true
  rw [e1, h]; rfl
/-- A net that was parsed of a text. -/
theorem parsed_good {s : ByteArray} (hs : s.size ≤ 4096) (h : (textAll s).2.2 = 0) : ∃ p B, B ≤ 4096 ∧ NetG B p ∧ (textAll s).1 = ntOf p := by
  have hl : s.data.toList.length ≤ 4096 := by simpa using hs
  have hat := (lex_at hl).1
  have hnm := lex_names (l := s.data.toList) (by omega)
  unfold textAll at h ⊢
  split at h
  · rename_i q
    rw [if_pos q]
    unfold netAll at h ⊢
    split at h
    · rename_i q2
      rw [if_pos q2]
      refine ⟨netP (ktOf (lexR s.data.toList).1), (ktOf (lexR s.data.toList).1).length, ?_, netP_ok hnm q2, rfl⟩
      unfold ktOf
      rw [List.length_map]
      exact hat
    · rename_i q2
      exact absurd h q2
  · rename_i q
    exact absurd h q
theorem netB_bytes (N : Nt) : (netB N).data.toList = textN' N := by unfold netB; simp
/-- Its text is parsed as it was. -/
theorem text_back {B : Nat} {p : Ps} (g : NetG B p) (hl : (netB (ntOf p)).size ≤ 16384) : (textAll (netB (ntOf p))).1 = ntOf p ∧ (textAll (netB (ntOf p))).2.2 = 0 := by
  have hb := netB_bytes (ntOf p)
  have hlen : (textN' (ntOf p)).length ≤ 16384 := by rw [← hb]; simpa using hl
  have hx := lxK_lexR hlen
  rw [show lxK (textN' (ntOf p)) = some (netK (ntOf p)) from lex_net g] at hx
  obtain ⟨R, hR⟩ : ∃ R, R = lexR (textN' (ntOf p)) := ⟨_, rfl⟩
  rw [← hR] at hx
  unfold lxO at hx
  split at hx
  · rename_i q
    injection hx with hx
    obtain ⟨b1, b2⟩ := net_back g
    unfold textAll
    rw [hb, ← hR, if_pos q]
    unfold netAll
    rw [hx, if_pos b1]
    exact ⟨b2, rfl⟩
  · cases hx
/-- Unlike nets have unlike texts. -/
theorem text_apart {B C : Nat} {p q : Ps} (g : NetG B p) (k : NetG C q) : netB (ntOf p) = netB (ntOf q) ↔ ntOf p = ntOf q := by
  constructor
  · intro h
    have h1 : textN' (ntOf p) = textN' (ntOf q) := by rw [← netB_bytes, ← netB_bytes, h]
    have e1 : lxK (textN' (ntOf p)) = some (netK (ntOf p)) := lex_net g
    have e2 : lxK (textN' (ntOf q)) = some (netK (ntOf q)) := lex_net k
    rw [h1, e2] at e1
    injection e1 with e1
    rw [← (net_back g).2, ← (net_back k).2, e1]
  · intro h; rw [h]
/-- How long texts are. -/
theorem nm_size {x : ByteArray} (h : nmB x) : x.size ≤ 32 := by
  have h1 := h.1
  unfold nameOk at h1
  simp only [Bool.and_eq_true, decide_eq_true_eq] at h1
  have := h1.1.1.2
  rw [size_list] at this
  exact this
theorem join_len (M : Nat) : ∀ l : List (List UInt8), (∀ x ∈ l, x.length ≤ M) → (Lib.join l [44, 32]).length ≤ l.length * (M + 2)
  | [], _ => Nat.zero_le _
  | [a], h => by
    rw [Lib.join_one]
    have := h a (by simp)
    simp only [List.length_cons, List.length_nil]
    omega
  | a :: b :: r, h => by
    have ih := join_len M (b :: r) fun x hx => h x (List.mem_cons_of_mem _ hx)
    have := h a (by simp)
    rw [join_cons2, List.length_append, List.length_append]
    simp only [List.length_cons, List.length_nil] at ih ⊢
    have e : (r.length + 1 + 1) * (M + 2) = (r.length + 1) * (M + 2) + (M + 2) := by rw [Nat.add_mul _ 1, Nat.one_mul]
    omega
theorem joinB_len (M : Nat) (l : List ByteArray) (h : ∀ x ∈ l, x.size ≤ M) : (joinB l).size ≤ l.length * (M + 2) := by
  unfold joinB
  rw [lit_size]
  have := join_len M (l.map (·.data.toList)) fun x hx => by
    obtain ⟨y, hy, rfl⟩ := List.mem_map.1 hx
    rw [size_list]; exact h y hy
  rw [List.length_map] at this
  exact this
theorem flat_bd {α : Type} (f : α → List UInt8) (M : Nat) : ∀ l : List α, (∀ x ∈ l, (f x).length ≤ M) → (l.map f).flatten.length ≤ l.length * M
  | [], _ => Nat.zero_le _
  | a :: r, h => by
    have ih := flat_bd f M r fun x hx => h x (List.mem_cons_of_mem _ hx)
    have := h a (by simp)
    rw [List.map_cons, List.flatten_cons, List.length_append, List.length_cons, Nat.add_mul, Nat.one_mul]
    omega
theorem fold_size (M : Nat) : ∀ (l : List ByteArray) (a : ByteArray), (∀ x ∈ l, x.size ≤ M) → (l.foldl (fun s c => s ++ clauseB c) a).size ≤ a.size + l.length * (M + 3)
  | [], a, _ => Nat.le_add_right _ _
  | c :: r, a, h => by
    rw [List.foldl_cons]
    have ih := fold_size M r (a ++ clauseB c) fun x hx => h x (List.mem_cons_of_mem _ hx)
    have := h c (by simp)
    have e : (a ++ clauseB c).size = a.size + (2 + c.size + 1) := by
      unfold clauseB
      rw [ByteArray.size_append, ByteArray.size_append, ByteArray.size_append]; rfl
    rw [e] at ih
    rw [List.length_cons, Nat.add_mul, Nat.one_mul]
    omega
theorem I64_of {n : Int} (h : inI n) : I64 n := by unfold inI at h; exact ⟨by omega, by omega⟩
theorem I64_N {n : Int} (h : inN n) : I64 n := by unfold inN at h; exact ⟨by omega, by omega⟩
theorem at_size {α : Type} [Inhabited α] (l : List α) (nm : α → ByteArray) (h : ∀ x ∈ l, (nm x).size ≤ 32) (k : Int) : (atB l nm k).size ≤ 1000 := by
  unfold atB
  split
  · rename_i q
    have := h _ (mem_getD (l := l) (k := k.toNat) (by omega))
    omega
  · show 1 ≤ 1000
    omega
theorem mul_le {a b c : Nat} (h : a ≤ b) : a * c ≤ b * c := Nat.mul_le_mul_right c h
/-- A parsed net is small. -/
theorem net_bd {B : Nat} (hB : B ≤ 4096) {p : Ps} (g : NetG B p) : NtBd (ntOf p) := by
  have colm : ∀ c ∈ p.cols, ∃ i, i < p.cols.length ∧ ColG B i c := fun c hc => by
    obtain ⟨i, hi, e⟩ := List.getElem_of_mem hc
    refine ⟨i, hi, ?_⟩
    have h := g.net.cols i hi
    rw [List.getD, List.getElem?_eq_getElem hi] at h
    rw [← e]; exact h
  have cs : ∀ k, (colB p.cols k).size ≤ 1000 := at_size _ _ fun c hc => by
    obtain ⟨i, _, h⟩ := colm c hc
    exact nm_size h.name
  have ps : ∀ k, (plB p.pls k).size ≤ 1000 := at_size _ _ fun q hq => nm_size (g.net.pls q hq).name
  have cnames : ∀ c ∈ p.cols, c.names.length ≤ 4096 ∧ (joinB c.names).size ≤ 4096 * 34 ∧ c.name.size ≤ 32 ∧ (membersB p.cols c).size ≤ 150000 := fun c hc => by
    obtain ⟨i, _, h⟩ := colm c hc
    have h1 := nm_size h.name
    have hn : c.names.length ≤ 4096 ∧ ∀ x ∈ c.names, x.size ≤ 32 := by
      rcases h.kind with ⟨_, _, _, e, _⟩ | ⟨_, _, e, f, _⟩ | ⟨_, _, _, _, _, e⟩
      · rw [e]; simp
      · exact ⟨by omega, fun x hx => nm_size (e x hx)⟩
      · rw [e]; simp
    have hj := joinB_len 32 c.names hn.2
    have hm := mul_le (c := 32 + 2) hn.1
    refine ⟨hn.1, by omega, h1, ?_⟩
    unfold membersB
    rcases h.kind with ⟨k, a, b, _⟩ | ⟨k, _⟩ | ⟨k, _⟩
    · have := itoaB_size (I64_of a)
      have := itoaB_size (I64_of b)
      rw [if_pos k, ByteArray.size_append, ByteArray.size_append, ByteArray.size_append]
      show 4 + _ + 4 + _ ≤ _
      omega
    · rw [if_neg (by omega), if_pos k, ByteArray.size_append]
      show 5 + _ ≤ _
      omega
    · have := cs c.first
      have := cs c.then_
      rw [if_neg (by omega), if_neg (by omega), if_pos k, ByteArray.size_append, ByteArray.size_append, ByteArray.size_append]
      show 5 + _ + 2 + _ ≤ _
      omega
  have pfirst : ∀ q ∈ p.pls, q.first.length ≤ 4096 ∧ (joinB (q.first.map pairB)).size ≤ 4096 * 47 ∧ q.name.size ≤ 32 ∧ (firstB q).size ≤ 200000 := fun q hq => by
    have h := g.net.pls q hq
    have h1 := nm_size h.name
    have hl := h.len
    have hj := joinB_len 45 (q.first.map pairB) fun x hx => by
      obtain ⟨y, hy, rfl⟩ := List.mem_map.1 hx
      have hf := h.first y hy
      have := itoaB_size (I64_N hf.1)
      have := itoaB_size (n := y.2) ⟨by omega, by omega⟩
      unfold pairB
      rw [ByteArray.size_append, ByteArray.size_append]
      show _ + 1 + _ ≤ _
      omega
    rw [List.length_map] at hj
    have hm := mul_le (c := 45 + 2) (show q.first.length ≤ 4096 by omega)
    refine ⟨by omega, by omega, h1, ?_⟩
    unfold firstB
    split
    · exact Nat.zero_le _
    · rw [ByteArray.size_append]
      show 3 + _ ≤ _
      omega
  have tsmall : ∀ t ∈ p.tks, TkBd t ∧ (∀ c ∈ clausesB p.cols p.pls t, c.size ≤ 34 * 4096 + 2100) ∧ (clausesB p.cols p.pls t).length ≤ 4 * 4096 + 5 ∧ t.name.size ≤ 32 := fun t ht => by
    obtain ⟨h, l⟩ := g.net.tks t ht
    have hN := tk_nm h
    have h1 := nm_size h.name
    have l1 := l.vars
    have l2 := l.ins
    have l3 := l.outs
    have l4 := l.cancel
    have tx : ∀ e : Tr, Good_ t.vars.length e → sizeT e ≤ B → (textT t.names e).length ≤ 34 * 4096 := fun e ge se => by
      rw [← names_len] at ge
      have := read_short hN e.sz e (Nat.le_refl _) ge.parts ge.read
      omega
    have gt := tx t.guard h.guard h.gsize
    have it : ∀ a ∈ t.ins, (textT t.names a.expr).length ≤ 34 * 4096 := fun a ha => tx a.expr (h.ins a ha).good (h.ins a ha).size
    have ot : ∀ a ∈ t.outs, (textT t.names a.expr).length ≤ 34 * 4096 := fun a ha => tx a.expr (h.outs a ha).good (h.outs a ha).size
    have vn : ∀ v ∈ t.vars, v.name.size ≤ 1000 := fun v hv => by have := nm_size (h.vars v hv).1; omega
    have hI : TkI t := ⟨⟨by have := h.join; omega, by have := h.join; omega⟩, ⟨by have := h.split; omega, by have := h.split; omega⟩, fun k hk => ⟨by have := h.cancel k hk; omega, by have := h.cancel k hk; have := g.np; omega⟩, I64_N h.after, I64_N h.m0, I64_N h.m1, I64_N h.m2⟩
    refine ⟨⟨by omega, by omega, by omega, by omega, by omega, vn, by omega, fun a ha => by have := it a ha; omega, fun a ha => by have := ot a ha; omega⟩, clauses_sz (34 * 4096) hI vn gt it ot cs ps, ?_, h1⟩
    have := clauses_len p.cols p.pls t
    omega
  have hnc := g.nc
  have hnp := g.np
  have hnt := g.nt
  refine ⟨fun c hc => ?_, fun q hq => ?_, fun t ht => (tsmall t ht).1, cs, ps, ?_⟩
  · obtain ⟨a, b, c', d⟩ := cnames c hc
    exact ⟨by omega, by show (joinB c.names).size ≤ _; omega, by omega, by show (membersB p.cols c).size ≤ _; omega⟩
  · obtain ⟨a, b, c', d⟩ := pfirst q hq
    exact ⟨by omega, by omega, by omega, by omega⟩
  · have b1 := flat_bd (fun c => (colLine p.cols c).data.toList) 200000 p.cols fun c hc => by
      obtain ⟨_, _, c', d⟩ := cnames c hc
      rw [size_list]
      unfold colLine
      rw [ByteArray.size_append, ByteArray.size_append, ByteArray.size_append, ByteArray.size_append]
      show 7 + _ + 3 + _ + 2 ≤ _
      omega
    have b2 := flat_bd (fun q => (plLine p.cols q).data.toList) 300000 p.pls fun q hq => by
      obtain ⟨_, _, c', d⟩ := pfirst q hq
      have := cs q.colour
      rw [size_list]
      unfold plLine
      rw [ByteArray.size_append, ByteArray.size_append, ByteArray.size_append, ByteArray.size_append, ByteArray.size_append]
      show 6 + _ + 2 + _ + _ + 2 ≤ _
      omega
    have b3 := flat_bd (fun t => (tkLine p.cols p.pls t).data.toList) 3000000000 p.tks fun t ht => by
      obtain ⟨_, c1, c2, c3⟩ := tsmall t ht
      have hf := fold_size (34 * 4096 + 2100) (clausesB p.cols p.pls t) ((⟨#[116, 97, 115, 107, 32]⟩ : ByteArray) ++ t.name ++ ⟨#[32, 123]⟩) c1
      have hm := mul_le (c := 34 * 4096 + 2100 + 3) c2
      rw [ByteArray.size_append, ByteArray.size_append] at hf
      rw [size_list]
      unfold tkLine taskB
      rw [ByteArray.size_append, ByteArray.size_append]
      show _ + 2 + 1 ≤ _
      have e5 : (⟨#[116, 97, 115, 107, 32]⟩ : ByteArray).size = 5 := rfl
      have e2 : (⟨#[32, 123]⟩ : ByteArray).size = 2 := rfl
      rw [e5, e2] at hf
      omega
    have m1 := mul_le (c := 200000) (show p.cols.length ≤ 4096 by omega)
    have m2 := mul_le (c := 300000) (show p.pls.length ≤ 4096 by omega)
    have m3 := mul_le (c := 3000000000) (show p.tks.length ≤ 4096 by omega)
    have f1 := ps p.from_
    have f2 := ps p.to_
    have b4 : (endLine (ntOf p)).data.toList.length ≤ 3000 := by
      rw [size_list]
      unfold endLine ntOf
      simp only
      rw [ByteArray.size_append, ByteArray.size_append, ByteArray.size_append, ByteArray.size_append]
      show 5 + _ + 5 + _ + 2 ≤ _
      omega
    unfold textN'
    rw [List.length_append, List.length_append, List.length_append]
    show (p.cols.map fun c => (colLine p.cols c).data.toList).flatten.length + (p.pls.map fun q => (plLine p.cols q).data.toList).flatten.length + (p.tks.map fun t => (tkLine p.cols p.pls t).data.toList).flatten.length + (endLine (ntOf p)).data.toList.length ≤ _
    omega
end Go.Proofs.YtkpjhjoopdbkaaaGreatDoor
namespace Go.Proofs.YtkpjhjoopdbkaaaGreatDoor
open Go.RowKit
def smN : Nt := ⟨[⟨⟨#[110]⟩, 1, 0, 3, [], 0, 0⟩], [⟨⟨#[97]⟩, 0, [(0, 2)]⟩, ⟨⟨#[98]⟩, 0, []⟩], [⟨⟨#[116]⟩, [⟨⟨#[120]⟩, 0⟩], .mk 1 1 [], 1, 3, [⟨0, .mk 2 0 []⟩], [⟨1, .mk 2 0 []⟩], [1], 0, 0, 0, 0⟩], 0, 1⟩
theorem sm_clauses : (clausesB smN.cols smN.pls (smN.tks.getD 0 default)).length = 5 := by kernel_rfl
theorem i64_lit {x : Int} (h : 0 ≤ x) (h2 : x ≤ 100) : I64 x := ⟨by omega, by omega⟩
theorem sm_bd : NtBd smN := by
  refine ⟨fun c hc => ?_, fun p hp => ?_, fun t ht => ?_, at_size _ _ fun c hc => ?_, at_size _ _ fun c hc => ?_, by show (textN' smN).length ≤ _; decide +kernel⟩
  · rw [List.mem_singleton.1 (show c ∈ [_] from hc)]; decide +kernel
  · rcases List.mem_cons.1 (show p ∈ [_, _] from hp) with h | h
    · rw [h]; decide +kernel
    · rw [List.mem_singleton.1 h]; decide +kernel
  · rw [List.mem_singleton.1 (show t ∈ [_] from ht)]
    refine ⟨by decide +kernel, by decide +kernel, by decide +kernel, by decide +kernel, by decide +kernel, ?_, by decide +kernel, ?_, ?_⟩
    · intro v hv; rw [List.mem_singleton.1 (show v ∈ [_] from hv)]; decide +kernel
    · intro v hv; rw [List.mem_singleton.1 (show v ∈ [_] from hv)]; decide +kernel
    · intro v hv; rw [List.mem_singleton.1 (show v ∈ [_] from hv)]; decide +kernel
  · rw [List.mem_singleton.1 (show c ∈ [_] from hc)]; decide +kernel
  · rcases List.mem_cons.1 (show c ∈ [_, _] from hc) with h | h
    · rw [h]; decide +kernel
    · rw [List.mem_singleton.1 h]; decide +kernel
theorem leaf_tr (w : World) (k n : Int) (hk : I64 k) (hn : I64 n) : TrAt w none 0 0 (.mk k n []) := by
  rw [TrAt]
  exact ⟨hk, hn, rfl, Nat.le_refl _, by omega, .inl rfl⟩
theorem sl_cells {w : World} {A : Option Addr} {n c size : Nat} {xs : List Value} (h : Sl w (.slice A n c) n size xs) (hn : 0 < n) : ∃ b off, A = some ⟨b, off, none⟩ ∧ ∀ j u, xs[j]? = some u → w.cell? ⟨b, off + j, none⟩ = some u := h.at_ hn
theorem sl_caps {w : World} {A : Option Addr} {n c size : Nat} {xs : List Value} (h : Sl w (.slice A n c) n size xs) : n ≤ c ∧ c ≤ 9223372036854775807 := by
  obtain ⟨A', c', e, h1, h2, _⟩ := h
  injection e with _ _ e
  subst e
  exact ⟨h1, h2⟩
/-- The small net, read of its rows. -/
theorem sm_net {w : World} {p1 p2 p3 k1 k2 k3 : Nat} {A2 Av Ai Ao Ac : Option Addr} {c2 cv ci co cc : Nat} (r1 : RowX w p1 82 [.string ⟨#[110]⟩, .int .i64 1, .int .i64 0, .int .i64 3, .slice none 0 0, .int .i64 0, .int .i64 0]) (r2 : RowX w p2 66 [.string ⟨#[97]⟩, .int .i64 0, .slice A2 1 c2, .string ⟨#[98]⟩, .int .i64 0, .slice none 0 0]) (r3 : RowX w p3 59 [.string ⟨#[116]⟩, .slice Av 1 cv, .int .i64 1, .int .i64 1, .slice none 0 0, .int .i64 1, .int .i64 3, .slice Ai 1 ci, .slice Ao 1 co, .slice Ac 1 cc, .int .i64 0, .int .i64 0, .int .i64 0, .int .i64 0])
    (h2 : Sl w (.slice A2 1 c2) 1 2 [.int .i64 0, .int .i64 2]) (hv : Sl w (.slice Av 1 cv) 1 2 [.string ⟨#[120]⟩, .int .i64 0]) (hi : Sl w (.slice Ai 1 ci) 1 4 [.int .i64 0, .int .i64 2, .int .i64 0, .slice none 0 0]) (ho : Sl w (.slice Ao 1 co) 1 4 [.int .i64 1, .int .i64 2, .int .i64 0, .slice none 0 0]) (hc : Sl w (.slice Ac 1 cc) 1 1 [.int .i64 1]) (d1 : 1 ≤ k1 ∧ k1 ≤ 9223372036854775807) (d2 : 2 ≤ k2 ∧ k2 ≤ 9223372036854775807) (d3 : 1 ≤ k3 ∧ k3 ≤ 9223372036854775807) :
    NetAt w (some ⟨p1, 0, none⟩) 1 k1 (some ⟨p2, 0, none⟩) 2 k2 (some ⟨p3, 0, none⟩) 1 k3 smN := by
  have z : I64 0 := i64_lit (by omega) (by omega)
  have o : I64 1 := i64_lit (by omega) (by omega)
  have t : I64 2 := i64_lit (by omega) (by omega)
  have r : I64 3 := i64_lit (by omega) (by omega)
  obtain ⟨bv, ov, ev, gv⟩ := sl_cells hv (by omega)
  obtain ⟨bi, oi, ei, gi⟩ := sl_cells hi (by omega)
  obtain ⟨bo, oo, eo, go⟩ := sl_cells ho (by omega)
  have lv := sl_caps hv
  have li := sl_caps hi
  have lo := sl_caps ho
  refine ⟨⟨d1.1, d1.2, rfl, fun _ => ⟨_, 0, rfl, fun k hk => ?_⟩⟩, ⟨d2.1, d2.2, rfl, fun _ => ⟨_, 0, rfl, fun k hk => ?_⟩⟩, ⟨d3.1, d3.2, rfl, fun _ => ⟨_, 0, rfl, fun k hk => ?_⟩⟩, z, o⟩
  · have e : k = 0 := by omega
    subst e
    exact ⟨none, 0, 0, r1.cell 0 _ rfl, r1.cell 1 _ rfl, r1.cell 2 _ rfl, r1.cell 3 _ rfl, r1.cell 4 _ rfl, r1.cell 5 _ rfl, r1.cell 6 _ rfl, Sl.none_ w 1, o, z, r, z, z⟩
  · match k, hk with
    | 0, _ => exact ⟨A2, 1, c2, r2.cell 0 _ rfl, r2.cell 1 _ rfl, r2.cell 2 _ rfl, h2, z, fun q hq => by
        have : q = (0, 2) := by simpa [smN] using hq
        rw [this]; exact ⟨z, t⟩⟩
    | 1, _ => exact ⟨none, 0, 0, r2.cell 3 _ rfl, r2.cell 4 _ rfl, r2.cell 5 _ rfl, Sl.none_ w 2, z, fun q hq => by cases hq⟩
    | k + 2, hk => exact absurd hk (by omega)
  · have e : k = 0 := by omega
    subst e
    refine ⟨Av, 1, cv, none, 0, 0, Ai, 1, ci, Ao, 1, co, Ac, 1, cc, r3.cell 0 _ rfl, r3.cell 1 _ rfl, r3.cell 2 _ rfl, r3.cell 3 _ rfl, r3.cell 4 _ rfl, r3.cell 5 _ rfl, r3.cell 6 _ rfl, r3.cell 7 _ rfl, r3.cell 8 _ rfl, r3.cell 9 _ rfl, r3.cell 10 _ rfl, r3.cell 11 _ rfl, r3.cell 12 _ rfl, r3.cell 13 _ rfl, ⟨lv.1, lv.2, rfl, fun _ => ⟨bv, ov, ev, fun k hk => ?_⟩⟩, leaf_tr w 1 1 o o, ⟨li.1, li.2, rfl, fun _ => ⟨bi, oi, ei, fun k hk => ?_⟩⟩, ⟨lo.1, lo.2, rfl, fun _ => ⟨bo, oo, eo, fun k hk => ?_⟩⟩, hc, o, r, (fun x hx => by rw [List.mem_singleton.1 (show x ∈ [_] from hx)]; exact o), z, z, z, z⟩
    · have e : k = 0 := by omega
      subst e
      exact ⟨gv 0 _ rfl, gv 1 _ rfl, z⟩
    · have e : k = 0 := by omega
      subst e
      exact ⟨none, 0, 0, gi 0 _ rfl, gi 1 _ rfl, gi 2 _ rfl, gi 3 _ rfl, leaf_tr w 2 0 t z, z⟩
    · have e : k = 0 := by omega
      subst e
      exact ⟨none, 0, 0, go 0 _ rfl, go 1 _ rfl, go 2 _ rfl, go 3 _ rfl, leaf_tr w 2 0 t z, o⟩
theorem heap_all : ∀ (os : List Obj) (w : World), (os.foldl World.alloc w).heap = w.heap ++ os.toArray
  | [], _ => by simp
  | o :: os, w => by
    rw [List.foldl_cons, heap_all os]
    show w.heap.push o ++ os.toArray = _
    simp
theorem below_all : ∀ (os : List Obj) (w : World), Below w.heap.size w (os.foldl World.alloc w)
  | [], _ => Below.refl _ _
  | o :: os, w => below_then (alrB w o) (below_all os _)
theorem blk_all (os : List Obj) (w : World) (i : Nat) (o : Obj) (h : os[i]? = some o) : (os.foldl World.alloc w).heap[w.heap.size + i]? = some o := by
  rw [heap_all, Array.getElem?_append_right (by omega)]
  simpa using h
def someOs (w : World) : List Obj := [.cells #[.slice (some ⟨w.heap.size + 2, 0, none⟩) 1 1, .slice (some ⟨w.heap.size + 4, 0, none⟩) 2 2, .slice (some ⟨w.heap.size + 9, 0, none⟩) 1 1, .int .i64 0, .int .i64 1] 39 (0, 0), .cells #[.int .i64 2, .int .i64 0, .slice none 0 0] 30 (0, 0), .cells #[.string ⟨#[110]⟩, .int .i64 1, .int .i64 0, .int .i64 3, .slice none 0 0, .int .i64 0, .int .i64 0] 82 (0, 0), .cells #[.int .i64 0, .int .i64 2] 67 (0, 0), .cells #[.string ⟨#[97]⟩, .int .i64 0, .slice (some ⟨w.heap.size + 3, 0, none⟩) 1 1, .string ⟨#[98]⟩, .int .i64 0, .slice none 0 0] 66 (0, 0), .cells #[.string ⟨#[120]⟩, .int .i64 0] 132 (0, 0), .cells #[.int .i64 0, .int .i64 2, .int .i64 0, .slice none 0 0] 61 (0, 0), .cells #[.int .i64 1, .int .i64 2, .int .i64 0, .slice none 0 0] 61 (0, 0), .cells #[.int .i64 1] 3 (0, 0), .cells #[.string ⟨#[116]⟩, .slice (some ⟨w.heap.size + 5, 0, none⟩) 1 1, .int .i64 1, .int .i64 1, .slice none 0 0, .int .i64 1, .int .i64 3, .slice (some ⟨w.heap.size + 6, 0, none⟩) 1 1, .slice (some ⟨w.heap.size + 7, 0, none⟩) 1 1, .slice (some ⟨w.heap.size + 8, 0, none⟩) 1 1, .int .i64 0, .int .i64 0, .int .i64 0, .int .i64 0] 59 (0, 0)]
theorem rowx_all (w : World) (i : Nat) {cs : Array Value} {T : TypeId} (h : (someOs w)[i]? = some (.cells cs T (0, 0))) : RowX ((someOs w).foldl World.alloc w) (w.heap.size + i) T cs.toList :=
  ⟨cs, blk_all _ _ _ _ h, fun j u hj => by simpa using hj⟩
theorem sm_blk (w : World) : SmA ((someOs w).foldl World.alloc w) (w.heap.size + 2) (w.heap.size + 4) (w.heap.size + 9) 1 2 1 (some ⟨w.heap.size + 3, 0, none⟩) 1 (some ⟨w.heap.size + 5, 0, none⟩) 1 (some ⟨w.heap.size + 6, 0, none⟩) 1 (some ⟨w.heap.size + 7, 0, none⟩) 1 (some ⟨w.heap.size + 8, 0, none⟩) 1 :=
  ⟨rowx_all w 2 rfl, rowx_all w 4 rfl, rowx_all w 9 rfl, ⟨_, rfl, rowx_all w 3 rfl⟩, ⟨_, rfl, rowx_all w 5 rfl⟩, ⟨_, rfl, rowx_all w 6 rfl⟩, ⟨_, rfl, rowx_all w 7 rfl⟩, ⟨_, rfl, rowx_all w 8 rfl⟩, by omega, by omega, by omega, by omega, by omega, by omega, by omega, by omega⟩
theorem SmA.below {w w' : World} {b1 b2 b3 d1 d2 d3 : Nat} {A2 Av Ai Ao Ac : Option Addr} {c2 cv ci co cc : Nat} (h : SmA w b1 b2 b3 d1 d2 d3 A2 c2 Av cv Ai ci Ao co Ac cc) (hb : Below w.heap.size w w') : SmA w' b1 b2 b3 d1 d2 d3 A2 c2 Av cv Ai ci Ao co Ac cc := by
  have ex : ∀ {A : Option Addr} {T : TypeId} {xs : List Value}, (∃ q, A = some ⟨q, 0, none⟩ ∧ RowX w q T xs) → ∃ q, A = some ⟨q, 0, none⟩ ∧ RowX w' q T xs := fun ⟨q, e, r⟩ => ⟨q, e, r.below hb⟩
  exact ⟨h.r1.below hb, h.r2.below hb, h.r3.below hb, ex h.first, ex h.vars, ex h.ins, ex h.outs, ex h.cancel, h.k1, h.k2, h.k3, h.e2, h.ev, h.ei, h.eo, h.ec⟩
theorem SmA.net {w : World} {b1 b2 b3 d1 d2 d3 : Nat} {A2 Av Ai Ao Ac : Option Addr} {c2 cv ci co cc : Nat} (h : SmA w b1 b2 b3 d1 d2 d3 A2 c2 Av cv Ai ci Ao co Ac cc) : NetAt w (some ⟨b1, 0, none⟩) 1 d1 (some ⟨b2, 0, none⟩) 2 d2 (some ⟨b3, 0, none⟩) 1 d3 smN := by
  obtain ⟨q1, e1, x1⟩ := h.first
  obtain ⟨q2, e2, x2⟩ := h.vars
  obtain ⟨q3, e3, x3⟩ := h.ins
  obtain ⟨q4, e4, x4⟩ := h.outs
  obtain ⟨q5, e5, x5⟩ := h.cancel
  exact sm_net h.r1 h.r2 h.r3 (by rw [e1]; exact x1.sl h.e2.1 h.e2.2 rfl) (by rw [e2]; exact x2.sl h.ev.1 h.ev.2 rfl) (by rw [e3]; exact x3.sl h.ei.1 h.ei.2 rfl) (by rw [e4]; exact x4.sl h.eo.1 h.eo.2 rfl) (by rw [e5]; exact x5.sl h.ec.1 h.ec.2 rfl) h.k1 h.k2 h.k3
set_option maxRecDepth 100000 in
set_option maxHeartbeats 8000000 in
theorem law7_some (w : World) : Calls Tryz.prog 40 #[] w fun e w' => e = .returned (netV (some ⟨w.heap.size + 2, 0, none⟩) 1 1 (some ⟨w.heap.size + 4, 0, none⟩) 2 2 (some ⟨w.heap.size + 9, 0, none⟩) 1 1 0 1) ∧ Hid (SmA w' (w.heap.size + 2) (w.heap.size + 4) (w.heap.size + 9) 1 2 1 (some ⟨w.heap.size + 3, 0, none⟩) 1 (some ⟨w.heap.size + 5, 0, none⟩) 1 (some ⟨w.heap.size + 6, 0, none⟩) 1 (some ⟨w.heap.size + 7, 0, none⟩) 1 (some ⟨w.heap.size + 8, 0, none⟩) 1) ∧ Hid (Below w.heap.size w w') := by
  go_enter Tryz.func40, Tryz.ntmps40
  go_wp2
  go_returns
  exact ⟨rfl, sm_blk w, below_all (someOs w) w⟩
section
variable {A1 A2 A3 : Option Addr} {n1 c1 n2 c2 n3 c3 : Nat} {N : Nt}
set_option maxRecDepth 100000 in
set_option maxHeartbeats 8000000 in
theorem pr_Clauses0 (w : World) (hN : Hid (NetAt w A1 n1 c1 A2 n2 c2 A3 n3 c3 N)) (HBN : Hid (NtBd N)) (htab : Hid (∀ W, Below w.heap.size w W → TabT W)) (hk : 0 < n3) :
    Calls Tryz.prog 42 #[netV A1 n1 c1 A2 n2 c2 A3 n3 c3 N.from_ N.to_, .int .i64 0] w fun e w' => ∃ v n, e = .returned v ∧ Sl w' v n 1 (strCells (clausesB N.cols N.pls (N.tks.getD 0 default))) ∧ Below w.heap.size w w' := by
  obtain ⟨w1, hw1⟩ : ∃ Z, Z = w.alloc (.cells #[.slice A1 n1 c1, .slice A2 n2 c2, .slice A3 n3 c3, .int .i64 N.from_, .int .i64 N.to_] 39) := ⟨_, rfl⟩
  have HB1 := Lib.hid (show Below w.heap.size w w1 by rw [hw1]; exact alrB w _)
  have RA := Lib.hid (show w1.heap[w.heap.size]? = some (.cells #[.slice A1 n1 c1, .slice A2 n2 c2, .slice A3 n3 c3, .int .i64 N.from_, .int .i64 N.to_] 39 (0, 0)) by rw [hw1]; exact heap_alloc_new w _)
  have HW := Lib.hid hw1.symm
  obtain ⟨g, hg⟩ : ∃ y, y = w.heap.size := ⟨_, rfl⟩
  have HG := Lib.hid hg.symm
  rw [← hg] at RA
  obtain ⟨z0, z1, z2, z3, z4⟩ : w1.cell? ⟨g, 0, none⟩ = some (.slice A1 n1 c1) ∧ w1.cell? ⟨g, 1, none⟩ = some (.slice A2 n2 c2) ∧ w1.cell? ⟨g, 2, none⟩ = some (.slice A3 n3 c3) ∧ w1.cell? ⟨g, 3, none⟩ = some (.int .i64 N.from_) ∧ w1.cell? ⟨g, 4, none⟩ = some (.int .i64 N.to_) := ⟨row_cell RA.out 0 _ rfl, row_cell RA.out 1 _ rfl, row_cell RA.out 2 _ rfl, row_cell RA.out 3 _ rfl, row_cell RA.out 4 _ rfl⟩
  clear hw1 hg
  obtain ⟨b1, o1, rfl, Av, nv, cv, Ag, mg, cg, Ai, ni, ci, Ao, no, co, Ac, nc, cc, P⟩ := (hN.out.tks.below TkAt.stays HB1.out).at_ hk
  have hbd := HBN.out.tk _ (getD_mem (l := N.tks) (k := 0) (by have := hN.out.tks.len.1; omega))
  obtain ⟨x, hx⟩ : ∃ x, x = N.tks.getD 0 default := ⟨_, rfl⟩
  rw [← hx] at P hbd ⊢
  rw [Nat.zero_mul, Nat.add_zero] at P
  have CX := Lib.hid (fun W (h : Below w1.heap.size w1 W) => pr_clauses (A1 := A1) (n1 := n1) (c1 := c1) (A2 := A2) (n2 := n2) (c2 := c2) (A3 := some ⟨b1, o1, none⟩) (n3 := n3) (c3 := c3) (N := N) x Av nv cv Ag mg cg Ai ni ci Ao no co Ac nc cc W (Lib.hid (TkS2.below (TkS2.below ⟨P.vars, P.guard, P.ins, P.outs, P.cancel⟩ (Below.refl _ _)) h)) (Lib.hid (hN.out.cols.below (below_then HB1.out h))) (Lib.hid (hN.out.pls.below PlAt.stays (below_then HB1.out h))) (Lib.hid ⟨P.i5, P.i6, P.i9, P.i10, P.i11, P.i12, P.i13⟩) (Lib.hid hbd) (Lib.hid (fun V hv => htab.out V (below_then (below_then HB1.out h) hv))) (Lib.hid HBN.out.cs) (Lib.hid HBN.out.ps))
  have hlt : ¬ ((n3 : Int) ≤ 0) := by omega
  have hlt2 : (0 : Int) < (n3 : Int) := by omega
  have cl0 := P.c0
  have cl1 := P.c1
  have cl2 := P.c2
  have cl3 := P.c3
  have cl4 := P.c4
  have cl5 := P.c5
  have cl6 := P.c6
  have cl7 := P.c7
  have cl8 := P.c8
  have cl9 := P.c9
  have cl10 := P.c10
  have cl11 := P.c11
  have cl12 := P.c12
  have cl13 := P.c13
  have HC := Lib.hid (show ∀ W, Below w1.heap.size w1 W → W.cell? ⟨g, 0, none⟩ = some (.slice A1 n1 c1) ∧ W.cell? ⟨g, 1, none⟩ = some (.slice A2 n2 c2) ∧ W.cell? ⟨g, 2, none⟩ = some (.slice (some ⟨b1, o1, none⟩) n3 c3) ∧ W.cell? ⟨g, 3, none⟩ = some (.int .i64 N.from_) ∧ W.cell? ⟨g, 4, none⟩ = some (.int .i64 N.to_) ∧ W.cell? ⟨b1, o1, none⟩ = some (.string x.name) ∧ W.cell? ⟨b1, o1 + 1, none⟩ = some (.slice Av nv cv) ∧ W.cell? ⟨b1, o1 + 2, none⟩ = some (.int .i64 x.guard.kind) ∧ W.cell? ⟨b1, o1 + 3, none⟩ = some (.int .i64 x.guard.num) ∧ W.cell? ⟨b1, o1 + 4, none⟩ = some (.slice Ag mg cg) ∧ W.cell? ⟨b1, o1 + 5, none⟩ = some (.int .i64 x.join) ∧ W.cell? ⟨b1, o1 + 6, none⟩ = some (.int .i64 x.split) ∧ W.cell? ⟨b1, o1 + 7, none⟩ = some (.slice Ai ni ci) ∧ W.cell? ⟨b1, o1 + 8, none⟩ = some (.slice Ao no co) ∧ W.cell? ⟨b1, o1 + 9, none⟩ = some (.slice Ac nc cc) ∧ W.cell? ⟨b1, o1 + 10, none⟩ = some (.int .i64 x.after) ∧ W.cell? ⟨b1, o1 + 11, none⟩ = some (.int .i64 x.m0) ∧ W.cell? ⟨b1, o1 + 12, none⟩ = some (.int .i64 x.m1) ∧ W.cell? ⟨b1, o1 + 13, none⟩ = some (.int .i64 x.m2) from fun W h => ⟨row_cell (row_below RA.out h) 0 _ rfl, row_cell (row_below RA.out h) 1 _ rfl, row_cell (row_below RA.out h) 2 _ rfl, row_cell (row_below RA.out h) 3 _ rfl, row_cell (row_below RA.out h) 4 _ rfl, cell_kept h cl0, cell_kept h cl1, cell_kept h cl2, cell_kept h cl3, cell_kept h cl4, cell_kept h cl5, cell_kept h cl6, cell_kept h cl7, cell_kept h cl8, cell_kept h cl9, cell_kept h cl10, cell_kept h cl11, cell_kept h cl12, cell_kept h cl13⟩)
  have BD0 := Lib.hid (Below.refl w1.heap.size w1)
  clear P hx hbd
  go_enter Tryz.func42, Tryz.ntmps42
  go_upto_region 1 with fail
  rw [HG.out, HW.out]
  go_upto_region 3 with fail
  clear cl0 cl1 cl2 cl3 cl4 cl5 cl6 cl7 cl8 cl9 cl10 cl11 cl12 cl13 z0 z1 z2 z3 z4
  go_region_held3 (fun W => W.cell? ⟨g, 0, none⟩ = some (.slice A1 n1 c1) ∧ W.cell? ⟨g, 1, none⟩ = some (.slice A2 n2 c2) ∧ W.cell? ⟨g, 2, none⟩ = some (.slice (some ⟨b1, o1, none⟩) n3 c3) ∧ W.cell? ⟨g, 3, none⟩ = some (.int .i64 N.from_) ∧ W.cell? ⟨g, 4, none⟩ = some (.int .i64 N.to_) ∧ W.cell? ⟨b1, o1, none⟩ = some (.string x.name) ∧ W.cell? ⟨b1, o1 + 1, none⟩ = some (.slice Av nv cv) ∧ W.cell? ⟨b1, o1 + 2, none⟩ = some (.int .i64 x.guard.kind) ∧ W.cell? ⟨b1, o1 + 3, none⟩ = some (.int .i64 x.guard.num) ∧ W.cell? ⟨b1, o1 + 4, none⟩ = some (.slice Ag mg cg) ∧ W.cell? ⟨b1, o1 + 5, none⟩ = some (.int .i64 x.join) ∧ W.cell? ⟨b1, o1 + 6, none⟩ = some (.int .i64 x.split) ∧ W.cell? ⟨b1, o1 + 7, none⟩ = some (.slice Ai ni ci) ∧ W.cell? ⟨b1, o1 + 8, none⟩ = some (.slice Ao no co) ∧ W.cell? ⟨b1, o1 + 9, none⟩ = some (.slice Ac nc cc) ∧ W.cell? ⟨b1, o1 + 10, none⟩ = some (.int .i64 x.after) ∧ W.cell? ⟨b1, o1 + 11, none⟩ = some (.int .i64 x.m0) ∧ W.cell? ⟨b1, o1 + 12, none⟩ = some (.int .i64 x.m1) ∧ W.cell? ⟨b1, o1 + 13, none⟩ = some (.int .i64 x.m2))
    (first | exact HC.out _ HB3.out | exact HC.out _ BD0.out | exact HC.out _ (below_drewN' BD0.out 1) | exact HC.out _ (below_drewN' BD0.out _))
    (first
      | (go_at_call 96; refine (CX.out _ (by first | exact BD0.out | exact below_drewN' BD0.out 1 | exact below_drewN' BD0.out _)).mono ?_; rintro e w2 ⟨v, n, rfl, hS, hb⟩; obtain ⟨A6, c6, rfl, _, _, _⟩ := hS.form; have HS := Lib.hid hS; have HB3 := Lib.hid (below_then (show Below w1.heap.size w1 _ from (by first | exact BD0.out | exact below_drewN' BD0.out 1 | exact below_drewN' BD0.out _)) hb); clear hS hb))
  all_goals
    go_wp2_with fail
    go_ret
    exact ⟨.slice A6 n c6, n, rfl, HS.out, below_then HB1.out HB3.out⟩
set_option maxRecDepth 100000 in
set_option maxHeartbeats 8000000 in
theorem pr_ClausesNo (w : World) : Calls Tryz.prog 42 #[netV A1 n1 c1 A2 n2 c2 A3 n3 c3 N.from_ N.to_, .int .i64 (-1)] w fun e w' => e = .returned (.slice none 0 0) ∧ Below w.heap.size w w' := by
  obtain ⟨w1, hw1⟩ : ∃ Z, Z = w.alloc (.cells #[.slice A1 n1 c1, .slice A2 n2 c2, .slice A3 n3 c3, .int .i64 N.from_, .int .i64 N.to_] 39) := ⟨_, rfl⟩
  have HB1 := Lib.hid (show Below w.heap.size w w1 by rw [hw1]; exact alrB w _)
  have RA := Lib.hid (show w1.heap[w.heap.size]? = some (.cells #[.slice A1 n1 c1, .slice A2 n2 c2, .slice A3 n3 c3, .int .i64 N.from_, .int .i64 N.to_] 39 (0, 0)) by rw [hw1]; exact heap_alloc_new w _)
  have HW := Lib.hid hw1.symm
  obtain ⟨g, hg⟩ : ∃ y, y = w.heap.size := ⟨_, rfl⟩
  have HG := Lib.hid hg.symm
  rw [← hg] at RA
  obtain ⟨z0, z1, z2, z3, z4⟩ : w1.cell? ⟨g, 0, none⟩ = some (.slice A1 n1 c1) ∧ w1.cell? ⟨g, 1, none⟩ = some (.slice A2 n2 c2) ∧ w1.cell? ⟨g, 2, none⟩ = some (.slice A3 n3 c3) ∧ w1.cell? ⟨g, 3, none⟩ = some (.int .i64 N.from_) ∧ w1.cell? ⟨g, 4, none⟩ = some (.int .i64 N.to_) := ⟨row_cell RA.out 0 _ rfl, row_cell RA.out 1 _ rfl, row_cell RA.out 2 _ rfl, row_cell RA.out 3 _ rfl, row_cell RA.out 4 _ rfl⟩
  clear hw1 hg
  go_enter Tryz.func42, Tryz.ntmps42
  go_upto_region 1 with fail
  rw [HG.out, HW.out]
  go_wp2
  go_ret
  exact ⟨rfl, HB1.out⟩
set_option maxRecDepth 100000 in
set_option maxHeartbeats 8000000 in
theorem pr_TaskNo (w : World) : Calls Tryz.prog 43 #[netV A1 n1 c1 A2 n2 c2 A3 1 c3 N.from_ N.to_, .int .i64 1] w fun e w' => e = .returned (.string ⟨#[]⟩) ∧ Below w.heap.size w w' := by
  obtain ⟨w1, hw1⟩ : ∃ Z, Z = w.alloc (.cells #[.slice A1 n1 c1, .slice A2 n2 c2, .slice A3 1 c3, .int .i64 N.from_, .int .i64 N.to_] 39) := ⟨_, rfl⟩
  have HB1 := Lib.hid (show Below w.heap.size w w1 by rw [hw1]; exact alrB w _)
  have RA := Lib.hid (show w1.heap[w.heap.size]? = some (.cells #[.slice A1 n1 c1, .slice A2 n2 c2, .slice A3 1 c3, .int .i64 N.from_, .int .i64 N.to_] 39 (0, 0)) by rw [hw1]; exact heap_alloc_new w _)
  have HW := Lib.hid hw1.symm
  obtain ⟨g, hg⟩ : ∃ y, y = w.heap.size := ⟨_, rfl⟩
  have HG := Lib.hid hg.symm
  rw [← hg] at RA
  obtain ⟨z0, z1, z2, z3, z4⟩ : w1.cell? ⟨g, 0, none⟩ = some (.slice A1 n1 c1) ∧ w1.cell? ⟨g, 1, none⟩ = some (.slice A2 n2 c2) ∧ w1.cell? ⟨g, 2, none⟩ = some (.slice A3 1 c3) ∧ w1.cell? ⟨g, 3, none⟩ = some (.int .i64 N.from_) ∧ w1.cell? ⟨g, 4, none⟩ = some (.int .i64 N.to_) := ⟨row_cell RA.out 0 _ rfl, row_cell RA.out 1 _ rfl, row_cell RA.out 2 _ rfl, row_cell RA.out 3 _ rfl, row_cell RA.out 4 _ rfl⟩
  clear hw1 hg
  go_enter Tryz.func43, Tryz.ntmps43
  go_upto_region 1 with fail
  rw [HG.out, HW.out]
  go_wp2
  go_ret
  exact ⟨rfl, HB1.out⟩
end
end Go.Proofs.YtkpjhjoopdbkaaaGreatDoor
