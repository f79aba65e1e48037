/- The document's Put: the walk. -/
import Derived.Test.YtmfdiclbenmfbaaDoorExprRa
import Derived.Deep.RegionLaw
namespace Go.Proofs.YtmfdiclbenmfbaaDoor
open Go.RowKit
structure RInv (w w3 wr : World) (B0 gb : Nat) (kd nm : Int) (j : Nat) (l : List TQ) (V : Value) : Prop where
  len : l.length = j
  own : wr.ownsRow (gb + 1) 24 3 V j (tqCells l)
  out : wr.heap[gb]? = some (.cells #[.int .i64 kd, .int .i64 nm, V] 24 (0, 0))
  hb : Below w.heap.size w wr
  bx : ∀ k, k < gb → wr.heap[k]? = w3.heap[k]?
  tr : ∀ q ∈ l, TrOut (fun k => k < B0 ∨ (gb + 1 ≤ k ∧ V.ownBlock ≠ some k)) wr q.A q.m q.c q.t
theorem RInv.step {w w3 wr w5 w9 : World} {B0 gb : Nat} {kd nm : Int} {j : Nat} {l : List TQ} {V V' : Value} {u : Tr} {A3 : Option Addr} {m3 c3 : Nat} {o : Obj} (h : RInv w w3 wr B0 gb kd nm j l V) (hB : B0 ≤ gb) (hw : w.heap.size ≤ gb) (hb : Below wr.heap.size wr w5)
    (hT : TrOut (fun k => k < B0 ∨ wr.heap.size ≤ k) w5 A3 m3 c3 u) (hO : w9.ownsRow (gb + 1) 24 3 V' (j + 1) (tqCells l ++ [.int .i64 u.kind, .int .i64 u.num, .slice A3 m3 c3])) (hg : (w5.alloc o).grownBy w9 V.ownBlock) (hat : V'.ownBlock = V.ownBlock ∨ V'.ownBlock = some (w5.alloc o).heap.size) :
    RInv w w3 (w9.setCell ⟨gb, 2, none⟩ V') B0 gb kd nm (j + 1) (l ++ [⟨u, A3, m3, c3⟩]) V' := by
  have hgl : gb < wr.heap.size := (Array.getElem?_eq_some_iff.1 h.out).1
  have hs5 := hb.size
  have hsa : (w5.alloc o).heap.size = w5.heap.size + 1 := World.size_alloc _ _
  have hal : ∀ k, k < w5.heap.size → V.ownBlock ≠ some k → w9.heap[k]? = w5.heap[k]? := fun k hk hne =>
    (hg.block k (by omega) (fun e => hne e.symm)).trans (Below.heap_alloc _ _ _ hk)
  have hlo : ∀ k, k < gb + 1 → V.ownBlock ≠ some k := fun k hk e => by have := (h.own.lt k e).1; omega
  have hold : ∀ k, k < wr.heap.size → V.ownBlock ≠ some k → w9.heap[k]? = wr.heap[k]? := fun k hk hne => (hal k (by omega) hne).trans (hb.block k hk)
  have hs9 := hg.size
  have hss : (w9.setCell ⟨gb, 2, none⟩ V').heap.size = w9.heap.size := by simp [World.setCell]
  have hvs : ∀ k, V.ownBlock = some k → k < wr.heap.size := fun k e => (h.own.lt k e).2
  refine ⟨by simp [h.len], ?_, ?_, ?_, fun k hk => ?_, fun q hq => ?_⟩
  · rw [tq_app]
    have hne : ∀ k, V'.ownBlock = some k → k ≠ gb := fun k hk e => by have := (hO.lt k hk).1; omega
    exact hO.kept (w' := w9.setCell ⟨gb, 2, none⟩ V') (row := some gb) ⟨rfl, rfl, rfl, Nat.le_of_eq hss.symm, fun k _ hk => set_other3 (fun h1 => hk (congrArg some h1))⟩ (.inr fun e => hne gb e rfl)
  · have h1 : w9.heap[gb]? = some (.cells #[.int .i64 kd, .int .i64 nm, V] 24 (0, 0)) := (hold gb hgl (hlo gb (by omega))).trans h.out
    exact set_same3 (o := 2) (u := V') h1
  · have h1 : Below (gb + 1) wr w9 := ((hb.mono (by omega)).alloc (by omega) o).grown hg (by omega) (fun q hq => (h.own.lt q hq).1)
    exact (h.hb.trans (h1.mono (by omega))).setCell (p := ⟨gb, 2, none⟩) hw V'
  · rw [set_other3 (by omega), hold k (by omega) (hlo k (by omega))]
    exact h.bx k hk
  · rcases List.mem_append.1 hq with hq | hq
    · refine (h.tr q hq).to (fun k hk hlt => ?_) (by omega) (fun k hlt hk => ?_)
      · rcases hk with hk | ⟨hk, hne⟩
        · rw [set_other3 (by omega)]
          exact hold k hlt (hlo k (by omega))
        · rw [set_other3 (by omega)]
          exact hold k hlt hne
      · rcases hk with hk | ⟨hk, hne⟩
        · exact .inl hk
        · refine .inr ⟨hk, ?_⟩
          rcases hat with e | e
          · rw [e]; exact hne
          · rw [e]; intro e2; injection e2; omega
    · have hq2 := List.mem_singleton.1 hq
      subst hq2
      refine hT.to (fun k hk hlt => ?_) (by omega) (fun k hlt hk => ?_)
      · rcases hk with hk | hk
        · rw [set_other3 (by omega)]
          exact hal k hlt (hlo k (by omega))
        · rw [set_other3 (by omega)]
          exact hal k hlt (fun e => by have := hvs k e; omega)
      · rcases hk with hk | hk
        · exact .inl hk
        · refine .inr ⟨by omega, ?_⟩
          rcases hat with e | e
          · rw [e]; intro e2; have := hvs k e2; omega
          · rw [e]; intro e2; injection e2; omega
end Go.Proofs.YtmfdiclbenmfbaaDoor
