/- The contract of path.Nodes; the statements' SameInts. -/
import Derived.Test.YtdlemkmkheokkaaDoorWm
namespace Go.Proofs.YtdlemkmkheokkaaDoor
open Go.RowKit

def NodesP (w : World) (R : WR) (e : Ending) (w' : World) : Prop := ∃ v, e = .returned v ∧ Ints w' w.heap.size v R.nodes ∧ Below w.heap.size w w'

set_option maxHeartbeats 400000 in
theorem nodes_any (S : SA) (C : SC) (k : K) (addr : Int) (w : World) (h : Sto w S C) (ha0 : 0 ≤ addr) (ha1 : addr < 4294967296) :
    Calls Tryd.prog 36 #[.pointer (some ⟨S.s, 0, none⟩), k.v, .int .u32 addr] w (NodesP w (wayF C k addr)) := by
  have WK := Lib.hid (fun W bc (hW : Sto W S C) h1 h2 => walkn_any S C k addr bc W hW h1 h2 ha0 ha1)
  have H := Lib.hid h
  clear h
  obtain ⟨R, hR⟩ : ∃ R, R = wayF C k addr := ⟨_, rfl⟩
  rw [← hR] at WK ⊢
  clear hR
  go_enter Tryd.func36, Tryd.ntmps36
  go_wp2_with (fail)
  go_at_call 56
  have hb0 : Below w.heap.size w ((w.alloc (.cells #[.int .i64 k.kind, .int .i64 k.id, .int .i64 k.ver, .int .i64 k.rights, .int .u32 k.data] 36)).alloc (.cells #[.slice none 0 0] 62)) := ((Below.refl _ w).alloc (Nat.le_refl _) _).alloc (by simp) _
  refine (WK.out _ (w.heap.size + 1) (H.out.below hb0) (fun hx => by have := H.out.lt _ hx; omega) (by have := heap_alloc_new (w.alloc (.cells #[.int .i64 k.kind, .int .i64 k.id, .int .i64 k.ver, .int .i64 k.rights, .int .u32 k.data] 36)) (.cells #[.slice none 0 0] 62); rw [World.size_alloc] at this; exact this)).mono ?_
  rintro e w1 ⟨v, rfl, ⟨cv, h1, h2⟩, ho⟩
  have c0 : w1.cell? ⟨w.heap.size + 1, 0, none⟩ = some cv := by simp [World.cell?, h1]
  have H1 := Lib.hid h1
  have H2 := Lib.hid h2
  have HO := Lib.hid ho
  have HB0 := Lib.hid hb0
  clear h1 h2 ho hb0
  go_wp2
  go_ret
  refine ⟨cv, rfl, H2.out.lower (by simp; omega), ?_⟩
  exact HB0.out.trans ⟨HO.out.os, HO.out.tape, HO.out.output, HO.out.size, fun x hx => HO.out.block x (by simp; omega) (by omega)⟩

def EqInts (a b : List Int) : Bool := a == b

end Go.Proofs.YtdlemkmkheokkaaDoor
