/- Contracts of node.New, page.New and store.New. -/
import Derived.Test.YtdlemkmkheokkaaDoorWb
import Derived.Test.YtdlemkmkheokkaaDoorL
namespace Go.Proofs.YtdlemkmkheokkaaDoor
open Go.RowKit

def nodesZero (n : Nat) : Array Value := madeCells zs80 (n * 80)
def pagesZero (n : Nat) : Array Value := madeCells zs32 (n * 32)
theorem info109 : (Tryd.prog.info? 109).map (fun i => (i.zero, i.size, i.bytes)) = some (some (.agg zs80), 80, 640) := by kernel_rfl
theorem info101 : (Tryd.prog.info? 101).map (fun i => (i.zero, i.size, i.bytes)) = some (some (.agg zs32), 32, 128) := by kernel_rfl

theorem make_nodes (n : Nat) (hn : n ≤ 1000) (w : World) : (Instr.makeSlice 106 (.int .i64 n) (.int .i64 n)).run Tryd.prog w =
    .ok (.slice (some ⟨w.heap.size, 0, none⟩) n n) (w.alloc (.cells (nodesZero n) 109)) := by
  obtain ⟨i0, hi, hz0, hz1, hz2⟩ := info_parts info109
  have := run_make (P := Tryd.prog) w 106 109 i0 _ Tryd.underlying106 hi hz0 .i64 .i64 n n (by omega) (by omega) (by rw [hz2]; omega) (by omega)
  rw [hz1] at this
  simp only [Int.toNat_natCast, Value.cells] at this
  exact this
theorem make_pages (n : Nat) (hn : n ≤ 1000) (w : World) : (Instr.makeSlice 76 (.int .i64 n) (.int .i64 n)).run Tryd.prog w =
    .ok (.slice (some ⟨w.heap.size, 0, none⟩) n n) (w.alloc (.cells (pagesZero n) 101)) := by
  obtain ⟨i0, hi, hz0, hz1, hz2⟩ := info_parts info101
  have := run_make (P := Tryd.prog) w 76 101 i0 _ Tryd.underlying76 hi hz0 .i64 .i64 n n (by omega) (by omega) (by rw [hz2]; omega) (by omega)
  rw [hz1] at this
  simp only [Int.toNat_natCast, Value.cells] at this
  exact this
theorem nodesZero_get (n : Nat) : ∀ i, i < n * 80 → (nodesZero n)[i]? = some (slotCell (fun _ _ => K.zero) i) := by
  intro i hi
  have h1 : zs80.size = 80 := by simp [zs80]
  have h2 : i % 80 < 80 := Nat.mod_lt _ (by omega)
  have h3 : i % 80 % 5 = i % 5 := by omega
  simp [nodesZero, madeCells, hi, slotCell, zs80, h2, h3]
theorem pagesZero_get (n : Nat) : ∀ i, i < n * 32 → (pagesZero n)[i]? = some (wordCell (fun _ _ => 0) i) := by
  intro i hi
  have h1 : zs32.size = 32 := by simp [zs32]
  have h2 : i % 32 < 32 := Nat.mod_lt _ (by omega)
  simp [pagesZero, madeCells, hi, wordCell, zs32, h2]
theorem nodesZero_size (n : Nat) : (nodesZero n).size = n * 80 := size_madeCells _ _
theorem pagesZero_size (n : Nat) : (pagesZero n).size = n * 32 := size_madeCells _ _

def NewNo (w : World) (n : Nat) (e : Ending) (w' : World) : Prop :=
  ∃ A : NA, e = .returned (.tuple #[.pointer (some ⟨A.b, 0, none⟩), .nilIface]) ∧ No w' A n AC.zero (fun _ _ => K.zero) ∧ (∀ x, A.has x → w.heap.size ≤ x) ∧ Below w.heap.size w w'
def NewPg (w : World) (n : Nat) (e : Ending) (w' : World) : Prop :=
  ∃ A : NA, e = .returned (.tuple #[.pointer (some ⟨A.b, 0, none⟩), .nilIface]) ∧ Pg w' A n AC.zero (fun _ _ => 0) ∧ (∀ x, A.has x → w.heap.size ≤ x) ∧ Below w.heap.size w w'

set_option maxHeartbeats 400000 in
theorem node_new (n : Nat) (w : World) (h1 : 1 ≤ n) (hn : n ≤ 256) : Calls Tryd.prog 50 #[.int .i64 n] w (NewNo w n) := by
  have AN := Lib.hid (arena_new n w h1 hn)
  have hmk := make_nodes n (by omega)
  go_enter Tryd.func50, Tryd.ntmps50
  go_wp2_with (fail)
  go_at_call 80
  refine (AN.out).mono ?_
  rintro e w1 ⟨a, l, rfl, har, ha, hl, hal, hb⟩
  have HAR := Lib.hid har
  have HB := Lib.hid hb
  have HAL := Lib.hid hal
  clear har hb hal
  go_wp2
  go_ret2
  have la := HAR.out.hd.lt
  have ll := HAR.out.row.lt
  have hsz := HB.out.size
  refine ⟨⟨w1.heap.size + 1, a, l, w1.heap.size⟩, rfl, ⟨?_, ?_, ?_, ?_⟩, ?_, ?_⟩
  · have := Row.new (w1.alloc (.cells (nodesZero n) 109)) #[.pointer (some ⟨a, 0, none⟩), .slice (some ⟨w1.heap.size, 0, none⟩) n n] 108 2 (fun j => if j = 0 then .pointer (some ⟨a, 0, none⟩) else .slice (some ⟨w1.heap.size, 0, none⟩) n n) rfl
      (fun i hi => by rcases (by omega : i = 0 ∨ i = 1) with rfl | rfl <;> rfl)
    simpa using this
  · exact HAR.out.below (((Below.refl _ _).alloc (Nat.le_refl _) _).alloc (by simp) _)
  · exact (Row.new w1 (nodesZero n) 109 (n * 80) _ (nodesZero_size n) (nodesZero_get n)).alloc _
  · exact ⟨by simp; omega, by simp; omega, by simp, HAL.out, by simp; omega, by simp; omega⟩
  · rintro x (rfl | rfl | rfl | rfl) <;> (try dsimp only) <;> omega
  · exact (HB.out.alloc hsz _).alloc (by simp; omega) _

set_option maxHeartbeats 400000 in
theorem page_new (n : Nat) (w : World) (h1 : 1 ≤ n) (hn : n ≤ 256) : Calls Tryd.prog 51 #[.int .i64 n] w (NewPg w n) := by
  have AN := Lib.hid (arena_new n w h1 hn)
  have hmk := make_pages n (by omega)
  go_enter Tryd.func51, Tryd.ntmps51
  go_wp2_with (fail)
  go_at_call 80
  refine (AN.out).mono ?_
  rintro e w1 ⟨a, l, rfl, har, ha, hl, hal, hb⟩
  have HAR := Lib.hid har
  have HB := Lib.hid hb
  have HAL := Lib.hid hal
  clear har hb hal
  go_wp2
  go_ret2
  have la := HAR.out.hd.lt
  have ll := HAR.out.row.lt
  have hsz := HB.out.size
  refine ⟨⟨w1.heap.size + 1, a, l, w1.heap.size⟩, rfl, ⟨?_, ?_, ?_, ?_⟩, ?_, ?_⟩
  · have := Row.new (w1.alloc (.cells (pagesZero n) 101)) #[.pointer (some ⟨a, 0, none⟩), .slice (some ⟨w1.heap.size, 0, none⟩) n n] 78 2 (fun j => if j = 0 then .pointer (some ⟨a, 0, none⟩) else .slice (some ⟨w1.heap.size, 0, none⟩) n n) rfl
      (fun i hi => by rcases (by omega : i = 0 ∨ i = 1) with rfl | rfl <;> rfl)
    simpa using this
  · exact HAR.out.below (((Below.refl _ _).alloc (Nat.le_refl _) _).alloc (by simp) _)
  · exact (Row.new w1 (pagesZero n) 101 (n * 32) _ (pagesZero_size n) (pagesZero_get n)).alloc _
  · exact ⟨by simp; omega, by simp; omega, by simp, HAL.out, by simp; omega, by simp; omega⟩
  · rintro x (rfl | rfl | rfl | rfl) <;> (try dsimp only) <;> omega
  · exact (HB.out.alloc hsz _).alloc (by simp; omega) _

set_option maxHeartbeats 400000 in
theorem store_new (n p : Nat) (w : World) (h1 : 1 ≤ n) (hn : n ≤ 256) (h2 : 1 ≤ p) (hp : p ≤ 256) : Calls Tryd.prog 18 #[.int .i64 n, .int .i64 p] w (NewSto w n p) := by
  have NN := Lib.hid (fun W => node_new n W h1 hn)
  have PN := Lib.hid (fun W => page_new p W h2 hp)
  go_enter Tryd.func18, Tryd.ntmps18
  go_wp2_with (fail)
  go_at_call 50
  refine (NN.out _).mono ?_
  rintro e w1 ⟨A, rfl, hno, ha, hb⟩
  have HNO := Lib.hid hno
  have HA := Lib.hid ha
  have HB := Lib.hid hb
  clear hno ha hb
  go_wp2_with (fail)
  go_at_call 51
  refine (PN.out _).mono ?_
  rintro e w2 ⟨B, rfl, hpg, hb, hb2⟩
  have HPG := Lib.hid hpg
  have HBB := Lib.hid hb
  have HB2 := Lib.hid hb2
  clear hpg hb hb2
  go_wp2
  go_ret2
  have s1 := HB.out.size
  have s2 := HB2.out.size
  have nol : ∀ x, A.has x → x < w1.heap.size := by
    rintro x (rfl | rfl | rfl | rfl)
    · exact HNO.out.hd.lt
    · exact HNO.out.ar.hd.lt
    · exact HNO.out.ar.row.lt
    · exact HNO.out.ks.lt
  have pgl : ∀ x, B.has x → x < w2.heap.size := by
    rintro x (rfl | rfl | rfl | rfl)
    · exact HPG.out.hd.lt
    · exact HPG.out.ar.hd.lt
    · exact HPG.out.ar.row.lt
    · exact HPG.out.ks.lt
  refine ⟨⟨w2.heap.size, A, B⟩, rfl, ⟨?_, ?_, ?_, ⟨?_, ?_, ?_⟩, hn, hp⟩, ?_, ?_⟩
  · exact Row.new w2 #[.pointer (some ⟨A.b, 0, none⟩), .pointer (some ⟨B.b, 0, none⟩)] 32 2 (fun j => if j = 0 then .pointer (some ⟨A.b, 0, none⟩) else .pointer (some ⟨B.b, 0, none⟩)) rfl
      (fun i hi => by rcases (by omega : i = 0 ∨ i = 1) with rfl | rfl <;> rfl)
  · exact (HNO.out.below HB2.out).below ((Below.refl _ _).alloc (Nat.le_refl _) _)
  · exact HPG.out.below ((Below.refl _ _).alloc (Nat.le_refl _) _)
  · intro h; have := nol _ h; dsimp only at this; omega
  · intro h; have := pgl _ h; dsimp only at this; omega
  · intro x h h'
    have := nol _ h
    have := HBB.out _ h'
    omega
  · rintro x (rfl | h | h)
    · dsimp only; omega
    · exact HA.out x h
    · have := HBB.out x h; omega
  · exact (HB.out.trans (HB2.out.mono s1)).alloc (by omega) _

end Go.Proofs.YtdlemkmkheokkaaDoor
