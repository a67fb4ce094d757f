/- Contracts of the nodes' slot and Get, of the pages' is, Read and Write. -/
import Derived.Test.YtdlemkmkheokkaaDoorWa
import Derived.Test.YtdlemkmkheokkaaDoorMb
namespace Go.Proofs.YtdlemkmkheokkaaDoor
open Go.RowKit

def slotB (i : Int) : Bool := decide (0 ≤ i) && decide (i < 16)
set_option maxHeartbeats 400000 in
theorem slot_any (i : Int) (w : World) : Calls Tryd.prog 58 #[.int .i64 i] w fun e w' => e = .returned (.bool (slotB i)) ∧ w = w' := by
  by_cases h0 : 0 ≤ i
  · have e : slotB i = decide (i < 16) := by simp [slotB, h0]
    rw [e]; clear e
    go_enter Tryd.func58, Tryd.ntmps58
    go_wp2
    go_ret
    exact ⟨rfl, rfl⟩
  · have e : slotB i = false := by simp [slotB, h0]
    rw [e]; clear e
    go_enter Tryd.func58, Tryd.ntmps58
    go_wp2
    go_ret
    exact ⟨rfl, rfl⟩

def isB (n : Nat) (th : Nat → Bool) (id i : Int) : Bool := thereB n th id && (decide (0 ≤ i) && decide (i < 32))

set_option maxHeartbeats 400000 in
theorem is_any (A : NA) (n : Nat) (c : AC) (pw : Nat → Nat → Int) (id i : Int) (w : World) (h : Pg w A n c pw) (hn : n ≤ 1000) :
    Calls Tryd.prog 66 #[.pointer (some ⟨A.b, 0, none⟩), .int .i64 id, .int .i64 i] w fun e w' => e = .returned (.bool (isB n c.th id i)) ∧ w = w' := by
  have h1 := h.p0
  have CT := Lib.hid (there_any A.a A.l n c id w h.ar hn)
  clear h
  by_cases hb : thereB n c.th id = true
  · by_cases h0 : 0 ≤ i
    · have e : isB n c.th id i = decide (i < 32) := by simp [isB, hb, h0]
      rw [e]; clear e
      go_enter Tryd.func66, Tryd.ntmps66
      go_wp2_with (go_at_call 53; refine (CT.out).mono ?_; rintro e w' ⟨rfl, rfl⟩)
      go_ret
      exact ⟨rfl, rfl⟩
    · have e : isB n c.th id i = false := by simp [isB, h0]
      rw [e]; clear e
      go_enter Tryd.func66, Tryd.ntmps66
      go_wp2_with (go_at_call 53; refine (CT.out).mono ?_; rintro e w' ⟨rfl, rfl⟩)
      go_ret
      exact ⟨rfl, rfl⟩
  · have hb' : thereB n c.th id = false := by simpa using hb
    clear hb
    have e : isB n c.th id i = false := by simp [isB, hb']
    rw [e]; clear e
    go_enter Tryd.func66, Tryd.ntmps66
    go_wp2_with (go_at_call 53; refine (CT.out).mono ?_; rintro e w' ⟨rfl, rfl⟩)
    go_ret
    exact ⟨rfl, rfl⟩

set_option maxHeartbeats 400000 in
theorem read_yes (A : NA) (n : Nat) (c : AC) (pw : Nat → Nat → Int) (id i : Nat) (w : World) (h : Pg w A n c pw) (hn : n ≤ 1000) (hid : id < n) (hth : c.th id = true) (hi : i < 32) :
    Calls Tryd.prog 33 #[.pointer (some ⟨A.b, 0, none⟩), .int .i64 id, .int .i64 i] w fun e w' => e = .returned (.tuple #[.int .u32 (pw id i), .bool true]) ∧ w = w' := by
  have h1 := h.p1
  have c0 := h.word id i hid hi
  have ct := is_any A n c pw id i w h hn
  have e : isB n c.th id i = true := by simp [isB, thereB, hid, hth]; omega
  rw [e] at ct
  have CT := Lib.hid ct
  clear h ct e hth
  go_enter Tryd.func33, Tryd.ntmps33
  go_wp2_with (go_at_call 66; refine (CT.out).mono ?_; rintro e w' ⟨rfl, rfl⟩)
  go_ret2
  exact ⟨rfl, rfl⟩

set_option maxHeartbeats 400000 in
theorem read_no (A : NA) (n : Nat) (c : AC) (pw : Nat → Nat → Int) (id i : Int) (w : World) (h : Pg w A n c pw) (hn : n ≤ 1000) (hb : isB n c.th id i = false) :
    Calls Tryd.prog 33 #[.pointer (some ⟨A.b, 0, none⟩), .int .i64 id, .int .i64 i] w fun e w' => e = .returned (.tuple #[.int .u32 0, .bool false]) ∧ w = w' := by
  have ct := is_any A n c pw id i w h hn
  rw [hb] at ct
  have CT := Lib.hid ct
  clear h ct hb
  go_enter Tryd.func33, Tryd.ntmps33
  go_wp2_with (go_at_call 66; refine (CT.out).mono ?_; rintro e w' ⟨rfl, rfl⟩)
  go_ret2
  exact ⟨rfl, rfl⟩

def Wrote (w : World) (A : NA) (n : Nat) (c : AC) (pw : Nat → Nat → Int) (id i : Nat) (v : Int) (e : Ending) (w' : World) : Prop :=
  e = .returned (.bool true) ∧ Pg w' A n c (up2 pw id i v) ∧ Only (fun k => k = A.k) w w'

theorem Pg.write {w : World} {A : NA} {n : Nat} {c : AC} {pw : Nat → Nat → Int} (h : Pg w A n c pw) (id i : Nat) (v : Int) (hi : i < 32) : Pg (w.setCell ⟨A.k, id * 32 + i, none⟩ (.int .u32 v)) A n c (up2 pw id i v) :=
  ⟨h.hd.setOther _ _ h.ok.bk, ⟨h.ar.hd.setOther _ _ h.ok.ak, h.ar.row.setOther _ _ h.ok.lk⟩, (h.ks.set _ _).congr fun j _ => wordCell_set pw id i v hi j, h.ok⟩

set_option maxHeartbeats 400000 in
theorem write_yes (A : NA) (n : Nat) (c : AC) (pw : Nat → Nat → Int) (id i : Nat) (v : Int) (w : World) (h : Pg w A n c pw) (hn : n ≤ 1000) (hid : id < n) (hth : c.th id = true) (hi : i < 32) :
    Calls Tryd.prog 65 #[.pointer (some ⟨A.b, 0, none⟩), .int .i64 id, .int .i64 i, .int .u32 v] w (Wrote w A n c pw id i v) := by
  have h1 := h.p1
  have c0 := h.word id i hid hi
  have f0 := h.ks.frozen (id * 32 + i)
  have ct := is_any A n c pw id i w h hn
  have e : isB n c.th id i = true := by simp [isB, thereB, hid, hth]; omega
  rw [e] at ct
  have CT := Lib.hid ct
  have H := Lib.hid h
  clear h ct e hth
  go_enter Tryd.func65, Tryd.ntmps65
  go_wp2_with (go_at_call 66; refine (CT.out).mono ?_; rintro e w' ⟨rfl, rfl⟩)
  go_ret
  exact ⟨rfl, H.out.write id i v hi, (Only.refl (fun k => k = A.k) w).setCell ⟨A.k, id * 32 + i, none⟩ _ (.inl rfl)⟩

/-- a key and whether there is one -/
def GotK (w : World) (k : K) (is : Bool) (e : Ending) (w' : World) : Prop := e = .returned (.tuple #[k.v, .bool is]) ∧ Below w.heap.size w w'

set_option maxHeartbeats 800000 in
theorem get_yes (A : NA) (n : Nat) (c : AC) (nk : Nat → Nat → K) (id i : Nat) (w : World) (h : No w A n c nk) (hn : n ≤ 1000) (hid : id < n) (hth : c.th id = true) (hi : i < 16) :
    Calls Tryd.prog 47 #[.pointer (some ⟨A.b, 0, none⟩), .int .i64 id, .int .i64 i] w (GotK w (nk id i) true) := by
  have h1 := h.p0
  have h2 := h.p1
  have c0 := h.slot id i 0 hid hi (by omega)
  have c1 := h.slot id i 1 hid hi (by omega)
  have c2 := h.slot id i 2 hid hi (by omega)
  have c3 := h.slot id i 3 hid hi (by omega)
  have c4 := h.slot id i 4 hid hi (by omega)
  simp only [K.cell, Nat.add_zero] at c0 c1 c2 c3 c4
  have ct := fun o => there_any A.a A.l n c id (w.alloc o) (h.ar.below ((Below.refl _ _).alloc (Nat.le_refl _) o)) hn
  have e : thereB n c.th id = true := by simp [thereB, hid, hth]
  rw [e] at ct
  have st := slot_any i
  have e2 : slotB i = true := by simp [slotB]; omega
  rw [e2] at st
  have CT := Lib.hid ct
  have ST := Lib.hid st
  clear ct e st e2 hth
  have l1 := h.hd.lt
  have l2 := h.ks.lt
  clear h
  go_enter Tryd.func47, Tryd.ntmps47
  go_wp2_with (first | (go_at_call 53; refine (CT.out _).mono ?_; rintro e w' ⟨rfl, rfl⟩) | (go_at_call 58; refine (ST.out _).mono ?_; rintro e w' ⟨rfl, rfl⟩))
  exact bodyPost_ret (v := .tuple #[(nk id i).v, .bool true]) (by simp [results, Tryd.results47, go_sem]) rfl ⟨rfl, (Below.refl _ _).alloc (Nat.le_refl _) _⟩

end Go.Proofs.YtdlemkmkheokkaaDoor
