/- Law MarkBack: bytes as texts. -/
import Derived.Test.YtajcleobmgjhoaaDoorMarkW
import Derived.Test.YtajcleobmgjhoaaDoorMarkS
import Derived.Test.YtajcleobmgjhoaaDoorMarkT
import Derived.Deep.RegionWith
import Derived.Laws.BytesArg
namespace Go.Proofs.YtajcleobmgjhoaaDoor
open Go.RowKit
theorem conv_u8 {w : World} {A : Option Addr} {n c : Nat} {l : List Int} (h : Sl w (.slice A n c) n 1 (u8Cells l)) (hn : 0 < n) : (convert 33 9 (.slice A n c)).run Tryd.prog w = .ok (.string (strOfNums l)) w := by
  have hl := h.len
  rw [u8_len] at hl
  obtain ⟨b, off, e, _⟩ := h.at_ hn
  subst e
  exact run_convert_bytes_arg w 33 5 Tryd.underlying33 Tryd.underlying5 b off n c l (by omega) (fun i hi => by
    obtain ⟨b', off', e, hc⟩ := h.u8_at hi
    injection e with e
    injection e with e1 e2
    subst e1 e2
    exact hc) 9 Tryd.underlying9
theorem str_inj {l m : List Int} (hl : U8s l) (hm : U8s m) (h : strOfNums l = strOfNums m) : l = m := by
  have h2 : l.map (fun n => UInt8.ofNat n.toNat) = m.map (fun n => UInt8.ofNat n.toNat) := by
    have := congrArg (fun s : ByteArray => s.data.toList) h
    simpa [strOfNums_data] using this
  clear h
  induction l generalizing m with
  | nil =>
    cases m with
    | nil => rfl
    | cons y t => simp at h2
  | cons x r ih =>
    cases m with
    | nil => simp at h2
    | cons y t =>
      simp only [List.map_cons, List.cons.injEq] at h2
      have hx := hl x (by simp)
      have hy := hm y (by simp)
      have h3 := congrArg UInt8.toNat h2.1
      rw [UInt8.toNat_ofNat', UInt8.toNat_ofNat'] at h3
      have e : x = y := by omega
      rw [e, ih (fun z hz => hl z (List.mem_cons_of_mem _ hz)) (fun z hz => hm z (List.mem_cons_of_mem _ hz)) h2.2]
theorem u8s_be (s : Nat) (n : Int) : U8s (be s n) := fun x hx => by
  unfold be beT at hx
  obtain ⟨i, _, rfl⟩ := List.mem_map.1 hx
  unfold byt
  omega
theorem u8s_enc (M : List Row) : U8s (encM M) := fun x hx => by
  unfold encM encBags encBag encRows at hx
  simp only [List.mem_append, List.mem_flatMap] at hx
  rcases hx with h | ⟨b, _, h | ⟨p, _, h | h⟩⟩
  all_goals exact u8s_be _ _ x h
structure BkS (w : World) (A0 : Option Addr) (n0 c0 : Nat) (X0 : List Bg) (A1 : Option Addr) (n1 c1 : Nat) (X1 : List Bg) (A2 : Option Addr) (n2 c2 : Nat) (L : List Int) (W : World) : Prop where
  bel : Below w.heap.size w W
  m0 : Mk W A0 n0 c0 X0
  m1 : Mk W A1 n1 c1 X1
  sc : Sl W (.slice A2 n2 c2) n2 1 (u8Cells L)
theorem BkS.go {w : World} {A0 : Option Addr} {n0 c0 : Nat} {X0 : List Bg} {A1 : Option Addr} {n1 c1 : Nat} {X1 : List Bg} {A2 : Option Addr} {n2 c2 : Nat} {L : List Int} {W W' : World} (h : BkS w A0 n0 c0 X0 A1 n1 c1 X1 A2 n2 c2 L W) (hb : Below W.heap.size W W') : BkS w A0 n0 c0 X0 A1 n1 c1 X1 A2 n2 c2 L W' :=
  ⟨below_then h.bel hb, h.m0.below hb, h.m1.below hb, h.sc.below hb⟩
theorem lens_of {xs : List Bg} {w : World} {A : Option Addr} {n c : Nat} (h : Mk w A n c xs) (hz : ∀ b ∈ xs, b.n ≤ 300) : ∀ r ∈ rowsB xs, r.length ≤ 65535 := fun r hr => by
  obtain ⟨b, hb, rfl⟩ := List.mem_map.1 hr
  have h1 := (h.bag b hb).len
  have h2 := hz b hb
  omega
theorem enc_pos (M : List Row) : 0 < (encM M).length := by
  unfold encM
  rw [List.length_append, be_len]
  omega
theorem dec_small_bags {xs : List Bg} {w : World} {A : Option Addr} {n c : Nat} {L : List Int} (h : Mk w A n c xs) (hd : ∀ r ∈ rowsB xs, 8 * r.length ≤ L.length) (hl : L.length ≤ 2000) : ∀ b ∈ xs, b.n ≤ 1000 := fun b hb => by
  have h1 := (h.bag b hb).len
  have h2 := hd b.l (List.mem_map_of_mem hb)
  omega
end Go.Proofs.YtajcleobmgjhoaaDoor
