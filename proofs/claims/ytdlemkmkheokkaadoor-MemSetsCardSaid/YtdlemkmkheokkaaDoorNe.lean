/- The contract of mem.Set. -/
import Derived.Test.YtdlemkmkheokkaaDoorNd
import Derived.Test.YtdlemkmkheokkaaDoorCj
import Derived.Test.YtdlemkmkheokkaaDoorCs
namespace Go.Proofs.YtdlemkmkheokkaaDoor
open Go.RowKit

theorem nums1 (w : World) (x : Int) (t : TypeId) : Nums (w.alloc (.cells #[.int .i64 x] t)) w.heap.size [x] := by
  have h := Row.one w (.int .i64 x) t
  intro j v hv
  have hj : j < 1 := by
    have := (List.getElem?_eq_some_iff.1 hv).1
    simpa using this
  obtain rfl : j = 0 := by omega
  rw [h.cell 0 (by omega)]
  simp at hv
  rw [hv]

section
variable {w0 : World} {S : SA} {cb mb : Nat} {D : SC} {size hits n : Int} {cs : List CW} {X : Nat → Prop} {W : World}
set_option maxHeartbeats 1000000 in
theorem mem_set_lk (id i : Nat) (k : K) (h : Lk w0 S cb D size hits cs X W) (hx : X mb) (hr : Row W mb 3 (meCell S.s cb size)) (hn : ∀ c ∈ cs, c.ns.length ≤ 1000) (hid : id < D.nc) (hth : D.na.th id = true) (hi : i < 16) (hk : okK k) :
    Calls Tryd.prog 35 #[.pointer (some ⟨mb, 0, none⟩), .int .i64 id, .int .i64 i, k.v] W fun e W' => e = .returned .nilIface ∧ Lk w0 S cb { D with nk := up2 D.nk id i k } size hits (cs.filter fun c => !thr [(id : Int)] c.ns) X W' ∧ Keep X W W' := by
  have h1 := h.new (.cells #[.int .i64 k.kind, .int .i64 k.id, .int .i64 k.ver, .int .i64 k.rights, .int .u32 k.data] 36)
  have h2 := h1.new (.cells #[.int .i64 id] 3)
  have FG := lk_forget _ 1 [(id : Int)] h2 (nums1 _ id 3) (by simp) (.inr rfl) hn
  have r0 := hr.cell 2 (by omega)
  simp only [meCell] at r0
  have lm := (h.hX mb hx).1
  have RK := (k.box W 36).alloc (.cells #[.int .i64 id] 3)
  have RM := (hr.alloc (.cells #[.int .i64 k.kind, .int .i64 k.id, .int .i64 k.ver, .int .i64 k.rights, .int .u32 k.data] 36)).alloc (.cells #[.int .i64 id] 3)
  rw [World.size_alloc] at FG
  have HFG := Lib.hid FG
  have HRK := Lib.hid RK
  have HRM := Lib.hid RM
  have HX := Lib.hid hx
  have HK := Lib.hid hk
  have HTH := Lib.hid hth
  have H := Lib.hid h
  have HR := Lib.hid hr
  clear FG RK RM hx hk hth h h1 h2 hr hn
  go_enter Tryd.func35, Tryd.ntmps35
  go_wp2_with (fail)
  go_at_call 48
  refine (HFG.out).mono ?_
  rintro e w5 ⟨rfl, hl5, hk5⟩
  have L5 := Lib.hid (hl5.less (Y := fun x => X x ∨ x = W.heap.size) fun x hx => .inl hx)
  have R5 := Lib.hid (HRK.out.of_block (w' := w5) (hk5.2 _ (.inl (.inr rfl))))
  have M5 := Lib.hid (HRM.out.of_block (w' := w5) (hk5.2 _ (.inl (.inl HX.out))))
  have K5 := Lib.hid (((H.out.keep_below (((Below.refl _ W).alloc (Nat.le_refl _) (.cells #[.int .i64 k.kind, .int .i64 k.id, .int .i64 k.ver, .int .i64 k.rights, .int .u32 k.data] 36)).alloc (by simp) (.cells #[.int .i64 id] 3))).trans (hk5.less fun x hx => .inl (.inl hx))))
  have z0 := M5.out.cell 0 (by omega)
  simp only [meCell] at z0
  have z1 := L5.out.sto.p0
  obtain ⟨k0, k1, k2, k3, k4⟩ := K.facts R5.out
  have ST := Lib.hid (set_yes S.n D.nc D.na D.nk id i k w5.drew L5.out.drew.sto.no (by have := L5.out.sto.n256; omega) hid HTH.out hi HK.out)
  clear hl5 hk5 r0
  go_wp2_with (fail)
  go_region_held3 (fun V => V.cell? ⟨mb, 0, none⟩ = some (.pointer (some ⟨S.s, 0, none⟩)) ∧ V.cell? ⟨S.s, 0, none⟩ = some (.pointer (some ⟨S.n.b, 0, none⟩)) ∧ V.cell? ⟨W.heap.size, 0, none⟩ = some (.int .i64 k.kind) ∧ V.cell? ⟨W.heap.size, 1, none⟩ = some (.int .i64 k.id) ∧ V.cell? ⟨W.heap.size, 2, none⟩ = some (.int .i64 k.ver) ∧ V.cell? ⟨W.heap.size, 3, none⟩ = some (.int .i64 k.rights) ∧ V.cell? ⟨W.heap.size, 4, none⟩ = some (.int .u32 k.data))
    (first | exact ⟨z0, z1, k0, k1, k2, k3, k4⟩ | go_keep)
    ((go_at_call 24; refine (ST.out).mono ?_; rintro e w6 ⟨rfl, hno, ho⟩; obtain ⟨l6, kp6⟩ := L5.out.drew.set hno ho; have L6 := Lib.hid l6; have K6 := Lib.hid kp6; have z0 := (M5.out.of_block (w' := w6) (kp6.2 _ (.inl HX.out))).cell 0 (by omega); simp only [meCell] at z0; have z1 := l6.sto.p0; obtain ⟨k0, k1, k2, k3, k4⟩ := K.facts (R5.out.of_block (w' := w6) (kp6.2 _ (.inr rfl))); clear hno ho l6 kp6))
  go_wp2
  go_ret
  exact ⟨rfl, L6.out.less fun x hx => .inl hx, K5.out.trans (K6.out.less (X := fun x => X x ∨ x = W.heap.size) fun x hx => .inl hx)⟩
theorem mem_set0 (id i : Nat) (k : K) (h : Me0 w0 S cb mb D size n X W) (hid : id < D.nc) (hth : D.na.th id = true) (hi : i < 16) (hk : okK k) :
    Calls Tryd.prog 35 #[.pointer (some ⟨mb, 0, none⟩), .int .i64 id, .int .i64 i, k.v] W fun e W' => e = .returned .nilIface ∧ Me0 w0 S cb mb { D with nk := up2 D.nk id i k } size n X W' ∧ Keep X W W' := by
  obtain ⟨hits, a1, a2, hl⟩ := h.ex
  refine (mem_set_lk id i k hl h.xm h.rm (fun c hc => absurd hc List.not_mem_nil) hid hth hi hk).mono ?_
  rintro e W' ⟨rfl, h1, h2⟩
  exact ⟨rfl, ⟨⟨hits, a1, a2, h1⟩, h.xm, h.rm.of_block (h2.2 mb h.xm)⟩, h2⟩
theorem mem_set (id i : Nat) (k : K) (h : Mm w0 S cb mb D size n X W) (hid : id < D.nc) (hth : D.na.th id = true) (hi : i < 16) (hk : okK k) :
    Calls Tryd.prog 35 #[.pointer (some ⟨mb, 0, none⟩), .int .i64 id, .int .i64 i, k.v] W fun e W' => e = .returned .nilIface ∧ Mm w0 S cb mb { D with nk := up2 D.nk id i k } size n X W' ∧ Keep X W W' := by
  obtain ⟨hits, cs, a1, a2, a3, hl⟩ := h.ex
  refine (mem_set_lk id i k hl h.xm h.rm (fun c hc => Nat.le_trans (a3 c hc).1 (by decide)) hid hth hi hk).mono ?_
  rintro e W' ⟨rfl, h1, h2⟩
  refine ⟨rfl, ⟨⟨hits, _, a1, a2, Good.set (fun c hc => a3 c (List.mem_filter.1 hc).1) id i k (fun c hc z hz e => ?_), h1⟩, h.xm, h.rm.of_block (h2.2 mb h.xm)⟩, h2⟩
  have hf := (List.mem_filter.1 hc).2
  have ht : thr [(id : Int)] c.ns = true := List.any_eq_true.2 ⟨z, hz, by simp [e]⟩
  rw [ht] at hf
  cases hf
end
end Go.Proofs.YtdlemkmkheokkaaDoor
