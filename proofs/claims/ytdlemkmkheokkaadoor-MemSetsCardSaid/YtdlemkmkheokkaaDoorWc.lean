/- Contracts of key's functions at the kinds that the laws make: voids, numbers, nodes, pages. -/
import Derived.Test.YtdlemkmkheokkaaDoorWa
namespace Go.Proofs.YtdlemkmkheokkaaDoor
open Go.RowKit

/-- a key as it should be, of the first four kinds -/
def okK (k : K) : Prop :=
  (k.kind = 0 ∧ k.id = 0 ∧ k.ver = 0 ∧ k.rights = 0 ∧ k.data = 0) ∨
  (k.kind = 1 ∧ k.id = 0 ∧ k.ver = 0 ∧ k.rights = 0 ∧ 0 ≤ k.data ∧ k.data ≤ 4294967295) ∨
  (k.kind = 2 ∧ 0 ≤ k.id ∧ k.id ≤ 255 ∧ 0 ≤ k.ver ∧ k.ver ≤ 1000000 ∧ 0 ≤ k.rights ∧ k.rights ≤ 7 ∧ 0 ≤ k.data ∧ k.data ≤ 4) ∨
  (k.kind = 3 ∧ 0 ≤ k.id ∧ k.id ≤ 255 ∧ 0 ≤ k.ver ∧ k.ver ≤ 1000000 ∧ 0 ≤ k.rights ∧ k.rights ≤ 7 ∧ k.data = 0)

def mostF (k : Int) : Int := if k = 2 ∨ k = 3 then 256 else 0
def dataF (k : Int) : Int := if k = 1 then 4294967295 else if k = 2 then 4 else 0

set_option maxHeartbeats 400000 in
theorem most_any (k : Int) (w : World) (h0 : 0 ≤ k) (h1 : k ≤ 3) :
    Calls Tryd.prog 82 #[.int .i64 k] w fun e w' => e = .returned (.int .i64 (mostF k)) ∧ w = w' := by
  obtain rfl | rfl | rfl | rfl : k = 0 ∨ k = 1 ∨ k = 2 ∨ k = 3 := by omega
  all_goals
    go_enter Tryd.func82, Tryd.ntmps82
    go_wp2
    go_ret
    exact ⟨rfl, rfl⟩

set_option maxHeartbeats 400000 in
theorem data_any (k : Int) (w : World) (h0 : 0 ≤ k) (h1 : k ≤ 3) :
    Calls Tryd.prog 83 #[.int .i64 k] w fun e w' => e = .returned (.int .u32 (dataF k)) ∧ w = w' := by
  obtain rfl | rfl | rfl | rfl : k = 0 ∨ k = 1 ∨ k = 2 ∨ k = 3 := by omega
  all_goals
    go_enter Tryd.func83, Tryd.ntmps83
    go_wp2
    go_ret
    exact ⟨rfl, rfl⟩

def NilBelow (w : World) (e : Ending) (w' : World) : Prop := e = .returned .nilIface ∧ Below w.heap.size w w'

set_option maxHeartbeats 800000 in
theorem valid_node (id ver rights data : Int) (w : World) (h1 : 0 ≤ id) (h2 : id ≤ 255) (h3 : 0 ≤ ver) (h4 : ver ≤ 1000000) (h5 : 0 ≤ rights) (h6 : rights ≤ 7) (h7 : 0 ≤ data) (h8 : data ≤ 4) :
    Calls Tryd.prog 59 #[.agg #[.int .i64 2, .int .i64 id, .int .i64 ver, .int .i64 rights, .int .u32 data]] w (NilBelow w) := by
  have m := fun w => most_any 2 w (by omega) (by omega)
  have d := fun w => data_any 2 w (by omega) (by omega)
  have e1 : mostF 2 = 256 := rfl
  have e2 : dataF 2 = 4 := rfl
  rw [e1] at m
  rw [e2] at d
  clear e1 e2
  have M := Lib.hid m
  have D := Lib.hid d
  clear m d
  go_enter Tryd.func59, Tryd.ntmps59
  go_wp2_with (go_at_call 82; refine (M.out _).mono ?_; rintro e w' ⟨rfl, rfl⟩)
  go_quiet ((go_at_call 83; refine quiet_eq (D.out _)))
  go_wp2
  go_ret
  exact ⟨rfl, below_drewN ((Below.refl _ _).alloc (Nat.le_refl _) _) _⟩

set_option maxHeartbeats 800000 in
theorem valid_page (id ver rights : Int) (w : World) (h1 : 0 ≤ id) (h2 : id ≤ 255) (h3 : 0 ≤ ver) (h4 : ver ≤ 1000000) (h5 : 0 ≤ rights) (h6 : rights ≤ 7) :
    Calls Tryd.prog 59 #[.agg #[.int .i64 3, .int .i64 id, .int .i64 ver, .int .i64 rights, .int .u32 0]] w (NilBelow w) := by
  have m := fun w => most_any 3 w (by omega) (by omega)
  have d := fun w => data_any 3 w (by omega) (by omega)
  have e1 : mostF 3 = 256 := rfl
  have e2 : dataF 3 = 0 := rfl
  rw [e1] at m
  rw [e2] at d
  clear e1 e2
  have M := Lib.hid m
  have D := Lib.hid d
  clear m d
  go_enter Tryd.func59, Tryd.ntmps59
  go_wp2_with (go_at_call 82; refine (M.out _).mono ?_; rintro e w' ⟨rfl, rfl⟩)
  go_quiet ((go_at_call 83; refine quiet_eq (D.out _)))
  go_wp2
  go_ret
  exact ⟨rfl, below_drewN ((Below.refl _ _).alloc (Nat.le_refl _) _) _⟩

set_option maxHeartbeats 800000 in
theorem valid_void  (w : World)  :
    Calls Tryd.prog 59 #[.agg #[.int .i64 0, .int .i64 0, .int .i64 0, .int .i64 0, .int .u32 0]] w (NilBelow w) := by
  have m := fun w => most_any 0 w (by omega) (by omega)
  have d := fun w => data_any 0 w (by omega) (by omega)
  have e1 : mostF 0 = 0 := rfl
  have e2 : dataF 0 = 0 := rfl
  rw [e1] at m
  rw [e2] at d
  clear e1 e2
  have M := Lib.hid m
  have D := Lib.hid d
  clear m d
  go_enter Tryd.func59, Tryd.ntmps59
  go_wp2_with (go_at_call 82; refine (M.out _).mono ?_; rintro e w' ⟨rfl, rfl⟩)
  go_quiet ((go_at_call 83; refine quiet_eq (D.out _)))
  go_wp2
  go_ret
  exact ⟨rfl, below_drewN ((Below.refl _ _).alloc (Nat.le_refl _) _) _⟩

set_option maxHeartbeats 800000 in
theorem valid_number (data : Int) (w : World) (h7 : 0 ≤ data) (h8 : data ≤ 4294967295) :
    Calls Tryd.prog 59 #[.agg #[.int .i64 1, .int .i64 0, .int .i64 0, .int .i64 0, .int .u32 data]] w (NilBelow w) := by
  have m := fun w => most_any 1 w (by omega) (by omega)
  have d := fun w => data_any 1 w (by omega) (by omega)
  have e1 : mostF 1 = 0 := rfl
  have e2 : dataF 1 = 4294967295 := rfl
  rw [e1] at m
  rw [e2] at d
  clear e1 e2
  have M := Lib.hid m
  have D := Lib.hid d
  clear m d
  go_enter Tryd.func59, Tryd.ntmps59
  go_wp2_with (go_at_call 82; refine (M.out _).mono ?_; rintro e w' ⟨rfl, rfl⟩)
  go_quiet ((go_at_call 83; refine quiet_eq (D.out _)))
  go_wp2
  go_ret
  exact ⟨rfl, below_drewN ((Below.refl _ _).alloc (Nat.le_refl _) _) _⟩

theorem valid_any (k : K) (w : World) (h : okK k) : Calls Tryd.prog 59 #[k.v] w (NilBelow w) := by
  obtain ⟨kind, id, ver, rights, data⟩ := k
  simp only [okK] at h
  rcases h with ⟨h0, h1, h2, h3, h4⟩ | ⟨h0, h1, h2, h3, h4, h5⟩ | ⟨h0, h1, h2, h3, h4, h5, h6, h7, h8⟩ | ⟨h0, h1, h2, h3, h4, h5, h6, h7⟩
  · subst h0 h1 h2 h3 h4; exact valid_void w
  · subst h0 h1 h2 h3; exact valid_number data w h4 h5
  · subst h0; exact valid_node id ver rights data w h1 h2 h3 h4 h5 h6 h7 h8
  · subst h0 h7; exact valid_page id ver rights w h1 h2 h3 h4 h5 h6

end Go.Proofs.YtdlemkmkheokkaaDoor
