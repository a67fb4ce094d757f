/- Laws that the kit lacks: copy of elements of any size; big variables made and copied whole. -/
import Derived.Test.YtdlemkmkheokkaaDoorRows
import Derived.Test.YtdlemkmkheokkaaDoorMb
import Derived.Laws.CopyOwn
import Derived.Deep.MidRow
import Derived.StillTailTactics
namespace Go.Proofs.YtdlemkmkheokkaaDoor
open Go.RowKit

section
variable {P : Program}
theorem run_copy_any (w : World) (dT sT ty elem : TypeId) (sz b o dLen dCap : Nat) (a : Addr) (sLen sCap : Nat) (cs : List Value)
    (hu : P.underlying dT = some (.slice elem)) (hs : (P.info? elem).map (·.size) = some sz) (hn : cs.length = Nat.min sLen dLen * sz)
    (hsrc : ∀ j v, cs[j]? = some v → w.cell? (a.add j) = some v) (hc : ∀ j, j < cs.length → (w.cell? ⟨b, o + j, none⟩).isSome = true) (hf : ∀ j, j < cs.length → w.frozen? ⟨b, o + j, none⟩ = false) (h1 : ∀ v ∈ cs, v.oneCell' = true) :
    (Builtin.copy_ #[dT, sT] ty #[.slice (some ⟨b, o, none⟩) dLen dCap, .slice (some a) sLen sCap]).run P w = .ok (goInt (Nat.min sLen dLen)) (w.setCells b o cs) := by
  have hl := run_loadCells_list (P := P) w a cs hsrc
  have hst := run_storeCells_cells (P := P) b o cs 0 w (by simpa using hc) (by simpa using hf) h1
  cases hq : P.info? elem with
  | none => simp [hq] at hs
  | some i =>
    have hi : i.size = sz := by simpa [hq] using hs
    simp [Builtin.copy_, run_underlying hu, Builtin.lenOf, Builtin.firstCells, sizeOf, typeInfo, hq, hi, ← hn, hl, hst]

theorem run_copy_from_nil (w : World) (dT sT ty elem : TypeId) (b : Addr) (dLen dCap : Nat)
    (hu : P.underlying dT = some (.slice elem)) (hs : ((P.info? elem).map (·.size)).isSome = true) :
    (Builtin.copy_ #[dT, sT] ty #[.slice (some b) dLen dCap, .slice none 0 0]).run P w = .ok (goInt 0) w := run_copy_nil P w dT sT ty elem b dLen dCap hu hs

theorem wpList_copy_any {w : World} {ops : Array Oper} {rest : List Oper} {o : Oper} {a : Act} {Q : Exit → Act → World → Prop} (hgd : o.guard = none) (d s : Operand) (dT sT : TypeId)
    (ho : o.op = .call { callee := .builtin .copy, args := #[d, s], argTypes := #[dT, sT] }) (elem : TypeId) (sz : Nat) (hu : P.underlying dT = some (.slice elem)) (hsz : (P.info? elem).map (·.size) = some sz)
    (g off dLen dCap : Nat) (ad : Addr) (sLen sCap : Nat) (hd : a.eval d = .slice (some ⟨g, off, none⟩) dLen dCap) (hs : a.eval s = .slice (some ad) sLen sCap)
    (cs : List Value) (hn : cs.length = Nat.min sLen dLen * sz)
    (hsrc : ∀ j v, cs[j]? = some v → w.cell? (ad.add j) = some v) (hc : ∀ j, j < cs.length → (w.cell? ⟨g, off + j, none⟩).isSome = true) (hf : ∀ j, j < cs.length → w.frozen? ⟨g, off + j, none⟩ = false) (h1 : ∀ v ∈ cs, v.oneCell' = true)
    (h : ∀ w', Hid (w' = w.setCells g off cs) → wpList P ops Q rest (a.put o.dst (goInt (Nat.min sLen dLen))) w') : wpList P ops Q (o :: rest) a w := by
  refine wpList_plain hgd fun K hK => ?_
  have hrun := run_copy_any (P := P) w dT sT o.type elem sz g off dLen dCap ad sLen sCap cs hu hsz hn hsrc hc hf h1
  unfold Oper.wp
  simp [execOp, ho, resolve, invoke, builtin, hd, hs, hrun, Result.andThen]
  exact hK _ _ (h _ rfl)

theorem wpList_copy_none {w : World} {ops : Array Oper} {rest : List Oper} {o : Oper} {a : Act} {Q : Exit → Act → World → Prop} (hgd : o.guard = none) (d s : Operand) (dT sT : TypeId)
    (ho : o.op = .call { callee := .builtin .copy, args := #[d, s], argTypes := #[dT, sT] }) (elem : TypeId) (hu : P.underlying dT = some (.slice elem)) (hsz : ((P.info? elem).map (·.size)).isSome = true)
    (b : Addr) (dLen dCap : Nat) (hd : a.eval d = .slice (some b) dLen dCap) (hs : a.eval s = .slice none 0 0)
    (h : wpList P ops Q rest (a.put o.dst (goInt 0)) w) : wpList P ops Q (o :: rest) a w := by
  refine wpList_plain hgd fun K hK => ?_
  have hrun := run_copy_from_nil (P := P) w dT sT o.type elem b dLen dCap hu hsz
  unfold Oper.wp
  simp [execOp, ho, resolve, invoke, builtin, hd, hs, hrun, Result.andThen]
  exact hK _ _ h

/-- a variable of a big type, its zero kept whole -/
theorem wpList_alloc_big {w : World} {ops : Array Oper} {rest : List Oper} {o : Oper} {a : Act} {Q : Exit → Act → World → Prop} (hgd : o.guard = none) (T : TypeId)
    (ho : o.op = .alloc T) (z : Array Value) (hz : ∀ w, (zeroValue T).run P w = .ok (.agg z) w)
    (h : wpList P ops Q rest (a.put o.dst (.pointer (some ⟨w.heap.size, 0, none⟩))) (w.alloc (.cells z T))) : wpList P ops Q (o :: rest) a w := by
  refine wpList_plain hgd fun K hK => ?_
  unfold Oper.wp
  have e : (Instr.alloc T true (.tuple #[])).run P w = .ok (.pointer (some ⟨w.heap.size, 0, none⟩)) (w.alloc (.cells z T)) := by
    simp [Instr.alloc, hz, newVar, newRow, Value.cells]
  simp [execOp, ho, e, Result.andThen]
  exact hK _ _ h
/-- a big variable stored whole, the world behind it under a name -/
theorem wpList_store_big {ops : Array Oper} {rest : List Oper} {op : Oper} {a : Act} {w : World} {Q : Exit → Act → World → Prop} (hgd : op.guard = none) (ty : TypeId) (x y : Operand) (ho : op.op = .store ty x y)
    (b o : Nat) (cells : Array Value) (hx : a.eval x = .pointer (some ⟨b, o, none⟩)) (hy : a.eval y = .agg cells)
    (ht : w.there b o cells.size) (hi : (P.info? ty).map (·.size) = some cells.size) (h1 : cells.all (·.oneCell') = true)
    (h : ∀ w', Hid (w' = w.setCells b o cells.toList) → wpList P ops Q rest (a.put op.dst undef) w') : wpList P ops Q (op :: rest) a w :=
  wpList_store_mid hgd ty x y ho b o cells hx hy ht hi h1 (h _ rfl)

/-- a big variable's zero, built -/
theorem wpList_build_zero {w : World} {ops : Array Oper} {rest : List Oper} {o : Oper} {a : Act} {Q : Exit → Act → World → Prop} (hgd : o.guard = none) (T : TypeId)
    (ho : o.op = .build T #[]) (z : Value) (hz : ∀ w, (Instr.build T #[]).run P w = .ok z w)
    (h : wpList P ops Q rest (a.put o.dst z) w) : wpList P ops Q (o :: rest) a w := by
  refine wpList_plain hgd fun K hK => ?_
  unfold Oper.wp
  simp [execOp, ho, hz, Result.andThen]
  exact hK _ _ h

/-- a big variable read whole, in a region whose tail alone writes -/
theorem wpStill_load_big {ops : Array Oper} {rest : List Oper} {o : Oper} {a : Act} {w : World} {Q : Act → Prop} (hw : Region.wanted o (yielded ops a.tmps) = true) (ty : TypeId) (x : Operand) (ho : o.op = .load ty x)
    (b off : Nat) (hx : a.eval x = .pointer (some ⟨b, off, none⟩)) (cs : List Value) (d : TypeDesc) (hc : w.rangeAt b off cs)
    (hu : P.underlying ty = some d) (hd : d.isRow = true) (hi : (P.info? ty).map (·.size) = some cs.length)
    (h : wpStill P ops w Q rest (a.put o.dst (.agg cs.toArray))) : wpStill P ops w Q (o :: rest) a := by
  refine wpStill_step fun K hK => ?_
  rw [if_pos hw]
  unfold Oper.still execOp
  simp only [ho, hx, Instr.loadAt, Instr.sureAddr, Sem.run_bind, Sem.run_pure, Result.andThen_ok, run_loadVar_mid w b off ty cs d hc hu hd hi]
  exact ⟨rfl, hK _ h⟩

theorem Row.range {w : World} {b n : Nat} {f : Nat → Value} (h : Row w b n f) : w.rangeAt b 0 ((List.range n).map f) := by
  intro j v hv
  by_cases hj : j < n
  · simp [hj] at hv
    rw [Nat.zero_add, h.cell j hj, hv]
  · simp [hj] at hv
theorem Row.there {w : World} {b n : Nat} {f : Nat → Value} (h : Row w b n f) (o m : Nat) (hm : o + m ≤ n) : w.there b o m := by
  intro j hj
  rw [h.cell (o + j) (by omega)]
  exact ⟨rfl, h.frozen _⟩
end

def zs32 : Array Value := Array.replicate 32 (.int .u32 0)
def zs80 : Array Value := (Array.range 80).map fun i => K.zero.cell (i % 5)
theorem zero101 (w : World) : (zeroValue 101).run Tryd.prog w = .ok (.agg zs32) w := by kernel_rfl
theorem zero109 (w : World) : (zeroValue 109).run Tryd.prog w = .ok (.agg zs80) w := by kernel_rfl
theorem build101 (w : World) : (Instr.build 101 #[]).run Tryd.prog w = .ok (.agg zs32) w := by kernel_rfl
theorem build109 (w : World) : (Instr.build 109 #[]).run Tryd.prog w = .ok (.agg zs80) w := by kernel_rfl
theorem zs32_size : zs32.size = 32 := by simp [zs32]
theorem zs80_size : zs80.size = 80 := by simp [zs80]
theorem zs32_one : zs32.all (·.oneCell') = true := by kernel_rfl
theorem zs80_one : zs80.all (·.oneCell') = true := by kernel_rfl
theorem zs32_get : ∀ i, i < 32 → zs32[i]? = some (.int .u32 0) := by intro i hi; simp [zs32, hi]
theorem zs80_get : ∀ i, i < 80 → zs80[i]? = some (K.zero.cell (i % 5)) := by intro i hi; simp [zs80, hi]
theorem size34 : (Tryd.prog.info? 34).map (·.size) = some 1 := by kernel_rfl
theorem size36 : (Tryd.prog.info? 36).map (·.size) = some 5 := by kernel_rfl
theorem size101 : (Tryd.prog.info? 101).map (·.size) = some 32 := by kernel_rfl
theorem size109 : (Tryd.prog.info? 109).map (·.size) = some 80 := by kernel_rfl
theorem size101z : (Tryd.prog.info? 101).map (·.size) = some zs32.size := by rw [zs32_size]; exact size101
theorem size109z : (Tryd.prog.info? 109).map (·.size) = some zs80.size := by rw [zs80_size]; exact size109

end Go.Proofs.YtdlemkmkheokkaaDoor
