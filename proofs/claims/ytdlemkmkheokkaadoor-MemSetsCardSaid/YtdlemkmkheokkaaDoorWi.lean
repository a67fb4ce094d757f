/- Contracts of the store's Live, NodeKey and PageKey. -/
import Derived.Test.YtdlemkmkheokkaaDoorWa
import Derived.Test.YtdlemkmkheokkaaDoorMb
namespace Go.Proofs.YtdlemkmkheokkaaDoor
open Go.RowKit

def liveS (C : SC) (k : K) : Bool := if k.kind = 2 then liveB C.nc C.na k.id k.ver else if k.kind = 3 then liveB C.pc C.pa k.id k.ver else false
def BoolBelow (w : World) (b : Bool) (e : Ending) (w' : World) : Prop := e = .returned (.bool b) ∧ Below w.heap.size w w'

set_option maxHeartbeats 400000 in
theorem live_none (k : K) (p : Value) (w : World) (h2 : k.kind ≠ 2) (h3 : k.kind ≠ 3) : Calls Tryd.prog 81 #[p, k.v] w (BoolBelow w false) := by
  have e2 : (k.kind == 2) = false := by simpa using h2
  have e3 : (k.kind == 3) = false := by simpa using h3
  clear h2 h3
  go_enter Tryd.func81, Tryd.ntmps81
  go_wp2
  go_ret
  exact ⟨rfl, (Below.refl _ _).alloc (Nat.le_refl _) _⟩

set_option maxHeartbeats 400000 in
theorem live_node (S : SA) (C : SC) (id ver rights data : Int) (w : World) (h : Sto w S C) :
    Calls Tryd.prog 81 #[.pointer (some ⟨S.s, 0, none⟩), .agg #[.int .i64 2, .int .i64 id, .int .i64 ver, .int .i64 rights, .int .u32 data]] w (BoolBelow w (liveB C.nc C.na id ver)) := by
  have h0 := h.p0
  have h1 := h.no.p0
  have l0 := h.hd.lt
  have l1 := h.no.hd.lt
  have hn := h.n256
  have CT := Lib.hid (fun n => live_any S.n.a S.n.l C.nc C.na id ver ((w.alloc (.cells #[.int .i64 2, .int .i64 id, .int .i64 ver, .int .i64 rights, .int .u32 data] 36)).drewN n) (h.no.below (below_drewN ((Below.refl _ _).alloc (Nat.le_refl _) _) n)).ar (by omega))
  clear h
  go_enter Tryd.func81, Tryd.ntmps81
  go_wp2
  go_quiet ((go_at_call 94; refine quiet_eq (CT.out _)))
  go_wp2
  go_ret
  exact ⟨rfl, below_drewN ((Below.refl _ _).alloc (Nat.le_refl _) _) _⟩

set_option maxHeartbeats 400000 in
theorem live_page (S : SA) (C : SC) (id ver rights data : Int) (w : World) (h : Sto w S C) :
    Calls Tryd.prog 81 #[.pointer (some ⟨S.s, 0, none⟩), .agg #[.int .i64 3, .int .i64 id, .int .i64 ver, .int .i64 rights, .int .u32 data]] w (BoolBelow w (liveB C.pc C.pa id ver)) := by
  have h0 := h.p1
  have h1 := h.pg.p0
  have l0 := h.hd.lt
  have l1 := h.pg.hd.lt
  have hn := h.p256
  have CT := Lib.hid (fun n => live_any S.p.a S.p.l C.pc C.pa id ver ((w.alloc (.cells #[.int .i64 3, .int .i64 id, .int .i64 ver, .int .i64 rights, .int .u32 data] 36)).drewN n) (h.pg.below (below_drewN ((Below.refl _ _).alloc (Nat.le_refl _) _) n)).ar (by omega))
  clear h
  go_enter Tryd.func81, Tryd.ntmps81
  go_wp2
  go_quiet ((go_at_call 94; refine quiet_eq (CT.out _)))
  go_wp2
  go_ret
  exact ⟨rfl, below_drewN ((Below.refl _ _).alloc (Nat.le_refl _) _) _⟩

theorem sto_live (S : SA) (C : SC) (k : K) (w : World) (h : Sto w S C) : Calls Tryd.prog 81 #[.pointer (some ⟨S.s, 0, none⟩), k.v] w (BoolBelow w (liveS C k)) := by
  by_cases h2 : k.kind = 2
  · obtain ⟨kind, id, ver, rights, data⟩ := k
    dsimp only at h2
    subst h2
    exact live_node S C id ver rights data w h
  · by_cases h3 : k.kind = 3
    · obtain ⟨kind, id, ver, rights, data⟩ := k
      dsimp only at h3
      subst h3
      exact live_page S C id ver rights data w h
    · have e : liveS C k = false := by simp [liveS, h2, h3]
      rw [e]
      exact live_none k _ w h2 h3

def KeyBelow (w : World) (k : K) (e : Ending) (w' : World) : Prop := e = .returned k.v ∧ Below w.heap.size w w'

set_option maxHeartbeats 400000 in
theorem page_key (S : SA) (C : SC) (i : Nat) (w : World) (h : Sto w S C) (hi : i < C.pc) (hth : C.pa.th i = true) :
    Calls Tryd.prog 20 #[.pointer (some ⟨S.s, 0, none⟩), .int .i64 i] w (KeyBelow w ⟨3, i, C.pa.ve i, 0, 0⟩) := by
  have h0 := h.p1
  have h1 := h.pg.p0
  have l0 := h.hd.lt
  have l1 := h.pg.hd.lt
  have hn := h.p256
  have ct := fun o => there_any S.p.a S.p.l C.pc C.pa i (w.alloc o) (h.pg.below ((Below.refl _ _).alloc (Nat.le_refl _) o)).ar (by omega)
  have e : thereB C.pc C.pa.th i = true := by simp [thereB, hi, hth]
  rw [e] at ct
  have CT := Lib.hid ct
  have VT := Lib.hid (fun o => ver_any S.p.a S.p.l C.pc C.pa i (w.alloc o) (h.pg.below ((Below.refl _ _).alloc (Nat.le_refl _) o)).ar (by omega) hi)
  clear ct e h hth
  go_enter Tryd.func20, Tryd.ntmps20
  go_wp2_with (first | (go_at_call 53; refine (CT.out _).mono ?_; rintro e w' ⟨rfl, rfl⟩) | (go_at_call 54; refine (VT.out _).mono ?_; rintro e w' ⟨rfl, rfl⟩))
  exact bodyPost_ret (v := .agg #[.int .i64 3, .int .i64 i, .int .i64 (C.pa.ve i), .int .i64 0, .int .u32 0]) (by simp [results, Tryd.results20, go_sem]) rfl ⟨rfl, (Below.refl _ _).alloc (Nat.le_refl _) _⟩

set_option maxHeartbeats 400000 in
theorem node_key (S : SA) (C : SC) (i : Nat) (ht : Int) (w : World) (h : Sto w S C) (hi : i < C.nc) (hth : C.na.th i = true) (g0 : 0 ≤ ht) (g4 : ht ≤ 4) :
    Calls Tryd.prog 22 #[.pointer (some ⟨S.s, 0, none⟩), .int .i64 i, .int .i64 ht] w (KeyBelow w ⟨2, i, C.na.ve i, 0, ht⟩) := by
  have h0 := h.p0
  have h1 := h.no.p0
  have l0 := h.hd.lt
  have l1 := h.no.hd.lt
  have hn := h.n256
  have ct := fun o => there_any S.n.a S.n.l C.nc C.na i (w.alloc o) (h.no.below ((Below.refl _ _).alloc (Nat.le_refl _) o)).ar (by omega)
  have e : thereB C.nc C.na.th i = true := by simp [thereB, hi, hth]
  rw [e] at ct
  have CT := Lib.hid ct
  have VT := Lib.hid (fun o => ver_any S.n.a S.n.l C.nc C.na i (w.alloc o) (h.no.below ((Below.refl _ _).alloc (Nat.le_refl _) o)).ar (by omega) hi)
  clear ct e h hth
  go_enter Tryd.func22, Tryd.ntmps22
  go_wp2_with (first | (go_at_call 53; refine (CT.out _).mono ?_; rintro e w' ⟨rfl, rfl⟩) | (go_at_call 54; refine (VT.out _).mono ?_; rintro e w' ⟨rfl, rfl⟩))
  exact bodyPost_ret (v := .agg #[.int .i64 2, .int .i64 i, .int .i64 (C.na.ve i), .int .i64 0, .int .u32 ht]) (by simp [results, Tryd.results22, go_sem]) rfl ⟨rfl, (Below.refl _ _).alloc (Nat.le_refl _) _⟩

end Go.Proofs.YtdlemkmkheokkaaDoor
