/- turnkeylaw10.CacheFinds answers true for every input: the walk. -/
import Derived.Test.YtdlemkmkheokkaaDoorUa
import Derived.Test.YtdlemkmkheokkaaDoorCj
import Derived.Test.YtdlemkmkheokkaaDoorCs
namespace Go.Proofs.YtdlemkmkheokkaaDoor
open Go.RowKit

theorem num1 (w : World) (x : Int) (t : TypeId) : Nums (w.alloc (.cells #[.int .i64 x] t)) w.heap.size [x] := by
  have h := Row.one w (.int .i64 x) t
  intro j v hv
  have hj : j < 1 := by
    have := (List.getElem?_eq_some_iff.1 hv).1
    simpa using this
  obtain rfl : j = 0 := by omega
  rw [h.cell 0 (by omega)]
  simp at hv
  rw [hv]
set_option maxHeartbeats 800000 in
theorem get_no (A : NA) (n : Nat) (c : AC) (nk : Nat → Nat → K) (id : Nat) (i : Int) (w : World) (h : No w A n c nk) (hn : n ≤ 1000) (hid : ¬ (id < n ∧ c.th id = true)) :
    Calls Tryd.prog 47 #[.pointer (some ⟨A.b, 0, none⟩), .int .i64 id, .int .i64 i] w (GotK w K.zero false) := by
  have h1 := h.p0
  have ct := fun o => there_any A.a A.l n c id (w.alloc o) (h.ar.below ((Below.refl _ _).alloc (Nat.le_refl _) o)) hn
  have e : thereB n c.th id = false := by
    simp [thereB]
    intro h1
    cases h2 : c.th id
    · rfl
    · exact absurd ⟨h1, h2⟩ hid
  rw [e] at ct
  have CT := Lib.hid ct
  have l1 := h.hd.lt
  clear ct e h hid
  go_enter Tryd.func47, Tryd.ntmps47
  go_wp2_with (go_at_call 53; refine (CT.out _).mono ?_; rintro e w' ⟨rfl, rfl⟩)
  exact bodyPost_ret (v := .tuple #[K.zero.v, .bool false]) (by simp [results, Tryd.results47, go_sem, K.zero]) rfl ⟨rfl, (Below.refl _ _).alloc (Nat.le_refl _) _⟩
/-- a thing that is done -/
structure DoV where
  kd : Int
  a : Int
  b : Int
  c : Int
  ad : Int
/-- at the loop -/
structure CFI (w0 : World) (S : SA) (cb kb : Nat) (k : K) (size n : Int) (D : SC) (W : World) : Prop where
  gk : Gk w0 S cb D size n (fun x => False ∨ x = kb) W
  rk : Row W kb 5 k.cell
  ok : ∀ a b, okK (D.nk a b)
  nc : D.nc = 16
theorem copy_ok {C : YC} (h : C.good) : ∀ a b, okK ((copyC C).nk a b) := fun a b => by
  show okK (if a < C.nm ∧ b < 16 then C.nk a b else K.zero)
  split
  · exact h.ks a b
  · exact ok_zero

theorem box_below2 {n b : Nat} {w W : World} (h : Below n w W) (hb : n ≤ b) (v0 v1 v2 v3 v4 : Value) :
    Below n w (((((W.setCell ⟨b, 0, none⟩ v0).setCell ⟨b, 1, none⟩ v1).setCell ⟨b, 2, none⟩ v2).setCell ⟨b, 3, none⟩ v3).setCell ⟨b, 4, none⟩ v4) :=
  ((((h.setCell (p := ⟨b, 0, none⟩) hb _).setCell (p := ⟨b, 1, none⟩) hb _).setCell (p := ⟨b, 2, none⟩) hb _).setCell (p := ⟨b, 3, none⟩) hb _).setCell (p := ⟨b, 4, none⟩) hb _
/-- a thing's cells -/
def doC (kd a b c ad : Int) : Nat → Value
  | 0 => .int .i64 kd
  | 1 => .int .i64 a
  | 2 => .int .i64 b
  | 3 => .int .i64 c
  | _ => .int .u32 ad
theorem doC_get (kd a b c ad : Int) : ∀ i, i < 5 → (#[.int .i64 kd, .int .i64 a, .int .i64 b, .int .i64 c, .int .u32 ad] : Array Value)[i]? = some (doC kd a b c ad i) := fun i hi => by
  rcases (by omega : i = 0 ∨ i = 1 ∨ i = 2 ∨ i = 3 ∨ i = 4) with rfl | rfl | rfl | rfl | rfl <;> rfl
theorem pl_get (p a : Int) (r : Bool) : ∀ i, i < 3 → (#[.int .i64 p, .int .i64 a, .bool r] : Array Value)[i]? = some (plCell p a r i) := fun i hi => by
  rcases (by omega : i = 0 ∨ i = 1 ∨ i = 2) with rfl | rfl | rfl <;> rfl
theorem gk_len {w0 : World} {S : SA} {cb : Nat} {D : SC} {size n : Int} {X : Nat → Prop} {W : World} (h : Gk w0 S cb D size n X W) :
    ∃ m : Nat, (m : Int) ≤ size ∧ Calls Tryd.prog 41 #[.pointer (some ⟨cb, 0, none⟩)] W (fun e W' => e = .returned (.int .i64 m) ∧ W = W') := by
  obtain ⟨hits, cs, _, _, _, hl⟩ := h
  exact ⟨cs.length, hl.len, lk_len hl⟩
theorem thr_no {a : Int} {cs : List CW} : ∀ c ∈ (cs.filter fun c => !thr [a] c.ns), ∀ z ∈ c.ns, z ≠ a := fun c hc z hz e => by
  have := (List.mem_filter.1 hc).2
  simp [thr] at this
  subst e
  first | exact this hz | exact this _ hz rfl
theorem Good.filter {C : SC} {cs : List CW} (h : Good C cs) (p : CW → Bool) : Good C (cs.filter p) := fun c hc => h c (List.mem_filter.1 hc).1
theorem up2_ok {nk : Nat → Nat → K} (h : ∀ a b, okK (nk a b)) {k : K} (hk : okK k) (i j : Nat) : ∀ a b, okK (up2 nk i j k a b) := fun a b => by
  unfold up2
  split
  · exact hk
  · exact h a b

set_option maxRecDepth 100000 in
set_option maxHeartbeats 4000000 in
theorem cacheFinds_walk (size0 height : Int) (A : Option Addr) (l : List Int) (cap : Nat) (A2 : Option Addr) (acts : List DoV) (cap2 : Nat) (w : World) (g off g2 off2 : Nat)
    (hA : l ≠ [] → A = some ⟨g, off, none⟩ ∧ g < w.heap.size) (hL : ∀ j z, l[j]? = some z → w.cell? ⟨g, off + j, none⟩ = some (.int .i64 z)) (hcap : l.length ≤ cap)
    (hA2 : acts ≠ [] → A2 = some ⟨g2, off2, none⟩ ∧ g2 < w.heap.size) (hL2 : ∀ j d, acts[j]? = some d → w.cell? ⟨g2, off2 + j * 5, none⟩ = some (.int .i64 d.kd) ∧ w.cell? ⟨g2, off2 + j * 5 + 1, none⟩ = some (.int .i64 d.a) ∧ w.cell? ⟨g2, off2 + j * 5 + 2, none⟩ = some (.int .i64 d.b) ∧ w.cell? ⟨g2, off2 + j * 5 + 3, none⟩ = some (.int .i64 d.c) ∧ w.cell? ⟨g2, off2 + j * 5 + 4, none⟩ = some (.int .u32 d.ad))
    (had : ∀ d ∈ acts, 0 ≤ d.ad ∧ d.ad < 4294967296) :
    Calls Tryd.prog 13 #[.int .i64 size0, .int .i64 height, .slice A l.length cap, .slice A2 acts.length cap2] w (TrueBelow w) := by
  obtain ⟨s, hs, hs64⟩ : ∃ s : Nat, numB size0 64 = (s : Int) ∧ s < 64 := ⟨(numB size0 64).toNat, by have := numB_range size0 64 (by omega); omega, by have := numB_range size0 64 (by omega); omega⟩
  have NB := Lib.hid (fun W => hs ▸ number_any size0 64 W (by omega) (by omega))
  have F10 := Lib.hid (fun W => first10 W)
  have CN := Lib.hid (show ∀ W, Calls Tryd.prog 39 #[.int .i64 ((s : Int) + 1)] W (NewCa W ((s : Int) + 1)) from fun W => cache_new _ W (by omega) (by omega))
  have HA := Lib.hid hA
  have HL := Lib.hid hL
  have HA2 := Lib.hid hA2
  have HL2 := Lib.hid hL2
  have HAD := Lib.hid had
  clear hA hL hA2 hL2 had hs
  by_cases hgd : 20 < l.length ∨ height < 0 ∨ 4 < height ∨ 50 < acts.length
  · go_enter Tryd.func13, Tryd.ntmps13
    go_wp2_with (fail)
    go_at_call 38
    refine (F10.out _).mono ?_
    rintro e w1 ⟨rfl, hb1⟩
    have HB1 := Lib.hid hb1
    clear hb1
    go_wp2_with (fail)
    go_at_call 26
    refine (NB.out _).mono ?_
    rintro e w' ⟨rfl, rfl⟩
    by_cases h1 : 20 < l.length
    · have e1 : decide ((l.length : Int) > 20) = true := by simp; omega
      have e1' : decide ((20 : Int) < (l.length : Int)) = true := by simp; omega
      clear hgd h1
      go_wp2
      go_ret
      exact ⟨rfl, HB1.out⟩
    · have e1 : decide ((20 : Int) < (l.length : Int)) = false := by simp; omega
      by_cases h2 : height < 0
      · have e2 : decide (height < 0) = true := by simpa using h2
        clear hgd h1 h2
        go_wp2
        go_ret
        exact ⟨rfl, HB1.out⟩
      · have e2 : decide (height < 0) = false := by simpa using h2
        by_cases h3 : 4 < height
        · have e3 : decide (4 < height) = true := by simpa using h3
          clear hgd h1 h2 h3
          go_wp2
          go_ret
          exact ⟨rfl, HB1.out⟩
        · have e3 : decide (4 < height) = false := by simpa using h3
          have e4 : decide ((50 : Int) < (acts.length : Int)) = true := by simp; omega
          clear hgd h1 h2 h3
          go_wp2
          go_ret
          exact ⟨rfl, HB1.out⟩
  · have e1 : decide ((20 : Int) < (l.length : Int)) = false := by simp; omega
    have e2 : decide (height < 0) = false := by simp; omega
    have e3 : decide (4 < height) = false := by simp; omega
    have e4 : decide ((50 : Int) < (acts.length : Int)) = false := by simp; omega
    obtain ⟨T, hT⟩ : ∃ T, T = treeF 4 height l (YC.new 16 16) := ⟨_, rfl⟩
    obtain ⟨D0, hD0⟩ : ∃ D0, D0 = copyC T.1 := ⟨_, rfl⟩
    obtain ⟨k, hk⟩ : ∃ k, k = T.2 := ⟨_, rfl⟩
    have hok : Hid ((∀ a b, okK (D0.nk a b)) ∧ D0.nc = 16) := by
      have h1 := (tree_good 4 height l (YC.new 16 16) (by omega) new_good).1
      have h2 := tree_le 4 height l (YC.new 16 16)
      rw [← hT] at h1 h2
      rw [hD0]
      exact ⟨copy_ok h1, h2.n⟩
    have MD := Lib.hid (fun (W : World) (b : Below w.heap.size w W) => show Calls Tryd.prog 46 #[.int .i64 height, .slice A l.length cap] W (fun e w' => ∃ S : SA, e = .returned (.tuple #[.pointer (some ⟨S.s, 0, none⟩), k.v]) ∧ LwS W S D0 w') from by
      have := made10_all 4 height l A g off cap W (by push_cast; omega) (by omega) (fun hne => ⟨(HA.out hne).1, Nat.lt_of_lt_of_le (HA.out hne).2 b.size⟩) (fun j z hz => by
        have hg := (HA.out (by rintro rfl; simp at hz)).2
        exact (World.cell?_of_block (w := w) (w' := W) (a := ⟨g, off + j, none⟩) (b.block g hg)).trans (HL.out j z hz)) (by omega) hcap
      rw [← hT] at this
      refine this.mono ?_
      rintro e w' ⟨S, rfl, h1, h2, h3⟩
      exact ⟨S, by rw [hk], by rw [hD0]; exact ⟨h1, h3, h2⟩⟩)
    have ha50 : acts.length ≤ 50 := by omega
    clear hgd hT hD0 hk
    obtain ⟨kk, ki, kv, kr, kda⟩ := k
    go_enter Tryd.func13, Tryd.ntmps13
    go_wp2_with (fail)
    go_at_call 38
    refine (F10.out _).mono ?_
    rintro e wa ⟨rfl, hb1⟩
    have HB1 := Lib.hid hb1
    clear hb1
    go_wp2_with (fail)
    go_at_call 26
    refine (NB.out _).mono ?_
    rintro e w' ⟨rfl, rfl⟩
    go_wp2_with (fail)
    go_at_call 46
    refine (MD.out _ HB1.out).mono ?_
    rintro e w1 ⟨S, rfl, hs⟩
    have hs1 := Lib.hid hs
    have L1 := Lib.hid (show LwS w S D0 (w1.alloc (.cells #[.int .i64 kk, .int .i64 ki, .int .i64 kv, .int .i64 kr, .int .u32 kda] 36)) from (⟨hs.sto, HB1.out.trans (hs.bel.mono HB1.out.size), fun x hx => Nat.le_trans HB1.out.size (hs.dB x hx)⟩ : LwS w S D0 w1).alloc _)
    have RK := Lib.hid ((⟨kk, ki, kv, kr, kda⟩ : K).box w1 36)
    clear hs MD
    go_wp2_with (fail)
    go_at_call 39
    refine (CN.out _).mono ?_
    rintro e w2 ⟨cb, rfl, hcb, hc, hb2⟩
    have lS : ¬ S.has w1.heap.size := fun e => by have := hs1.out.sto.lt _ e; omega
    have I0 : Hid (CFI w S cb w1.heap.size ⟨kk, ki, kv, kr, kda⟩ ((s : Int) + 1) 0 D0 w2) := ⟨⟨0, [], by omega, by omega, Good.nil _, (Lk.start L1.out hc hcb hb2 (by omega) (by omega)).addlow (g := w1.heap.size) (by simp at hcb; omega) lS⟩, RK.out.below hb2, hok.out.1, hok.out.2⟩
    clear hc hb2 CN RK hcb L1 hs1 lS hok
    have hsz : IntKind.i64.wrap ((s : Int) + 1) = (s : Int) + 1 := IntWalk.i64_in _ (by omega)
    go_wp2_with (fail)
    go_loopw [14] (fun t wr => ∃ (i : Nat) (D : SC), i ≤ acts.length ∧ t = .int .i64 i ∧ Hid (CFI w S cb w1.heap.size ⟨kk, ki, kv, kr, kda⟩ ((s : Int) + 1) i D wr)) (fun t _ => acts.length - (intOf t).toNat)
    case atStart => exact ⟨0, D0, by omega, rfl, I0⟩
    case round =>
      clear I0 hsz
      obtain ⟨i, D, hi, rfl, I⟩ := hrel
      by_cases hil : i < acts.length
      · obtain ⟨d, hd⟩ : ∃ d, acts[i]? = some d := ⟨_, List.getElem?_eq_getElem hil⟩
        have hdm : d ∈ acts := List.mem_of_getElem? hd
        have hne : acts ≠ [] := fun e => by rw [e] at hdm; exact absurd hdm List.not_mem_nil
        obtain ⟨hA, hgl⟩ := HA2.out hne
        subst hA
        have hb : Below w.heap.size w wr := I.out.gk.bel
        obtain ⟨x0, x1, x2, x3, x4⟩ := HL2.out i d hd
        have tr : ∀ z, wr.cell? ⟨g2, z, none⟩ = w.cell? ⟨g2, z, none⟩ := fun z => World.cell?_of_block (w := w) (w' := wr) (a := ⟨g2, z, none⟩) (hb.block g2 hgl)
        rw [← tr] at x0 x1 x2 x3 x4
        obtain ⟨d0, d1⟩ := HAD.out d hdm
        have lt2 : g2 < wr.heap.size := Nat.lt_of_lt_of_le hgl hb.size
        obtain ⟨kd, da, db, dc, ad⟩ := d
        clear tr hb hdm hd hne
        have hlt : (i : Int) < (acts.length : Int) := by omega
        have hlt2 : (i : Int) ≤ 50 := by omega
        obtain ⟨c0, c1, c2, c3, c4⟩ := K.facts I.out.rk
        have lk := I.out.rk.lt
        by_cases h1 : kd = 1
        · have e1 : (kd == 1) = true := by simpa using h1
          obtain ⟨P, hP⟩ : ∃ P, P = wayF D ⟨kk, ki, kv, kr, kda⟩ ad := ⟨_, rfl⟩
          have FD := Lib.hid (show ∀ W, Gk w S cb D ((s : Int) + 1) i (fun x => (False ∨ x = w1.heap.size) ∨ x = wr.heap.size) W → Calls Tryd.prog 40 #[.pointer (some ⟨cb, 0, none⟩), .pointer (some ⟨S.s, 0, none⟩), (⟨kk, ki, kv, kr, kda⟩ : K).v, .int .u32 ad] W (fun e W' => e = .returned P.fr.v ∧ Gk w S cb D ((s : Int) + 1) (i + 1) (fun x => (False ∨ x = w1.heap.size) ∨ x = wr.heap.size) W' ∧ Keep (fun x => (False ∨ x = w1.heap.size) ∨ x = wr.heap.size) W W') from fun W hW => gk_find ⟨kk, ki, kv, kr, kda⟩ ad P.fr hW d0 d1 (by omega) (by rw [hP]))
          have WY := Lib.hid (show ∀ W, Sto W S D → Calls Tryd.prog 23 #[.pointer (some ⟨S.s, 0, none⟩), (⟨kk, ki, kv, kr, kda⟩ : K).v, .int .u32 ad] W (WayP W P) from fun W hW => hP ▸ way_any S D ⟨kk, ki, kv, kr, kda⟩ ad W hW d0 d1)
          clear hP h1
          obtain ⟨P1, P2, P3, P4, P5⟩ := P
          have G1 := Lib.hid (I.out.gk.new (.cells #[.int .i64 kd, .int .i64 da, .int .i64 db, .int .i64 dc, .int .u32 ad] 84))
          have RB := Lib.hid (Row.new wr #[.int .i64 kd, .int .i64 da, .int .i64 db, .int .i64 dc, .int .u32 ad] 84 5 (doC kd da db dc ad) rfl (doC_get kd da db dc ad))
          have R1 := Lib.hid (I.out.rk.alloc (.cells #[.int .i64 kd, .int .i64 da, .int .i64 db, .int .i64 dc, .int .u32 ad] 84))
          have NCO := Lib.hid (show (∀ a b, okK (D.nk a b)) ∧ D.nc = 16 from ⟨I.out.ok, I.out.nc⟩)
          clear I
          go_wp2_with (fail)
          go_at_call 40
          refine (FD.out _ G1.out).mono ?_
          rintro e w5 ⟨he, hg5, hk5⟩
          obtain rfl : e = .returned (.tuple #[.agg #[.int .i64 P1, .int .i64 P2, .bool P3], .int .i64 P4]) := he
          have R5 := Lib.hid ((R1.out.of_block (w' := w5) (hk5.2 _ (.inl (.inr rfl)))).alloc (.cells #[.int .i64 P1, .int .i64 P2, .bool P3] 41))
          have RB5 := Lib.hid ((RB.out.of_block (w' := w5) (hk5.2 _ (.inr rfl))).alloc (.cells #[.int .i64 P1, .int .i64 P2, .bool P3] 41))
          have G5 := Lib.hid (hg5.new (.cells #[.int .i64 P1, .int .i64 P2, .bool P3] 41))
          clear hg5 hk5 c0 c1 c2 c3 c4 lk FD G1 RB R1
          obtain ⟨c0, c1, c2, c3, c4⟩ := K.facts R5.out
          have x4' := RB5.out.cell 4 (by omega)
          have lk := R5.out.lt
          have lb := RB5.out.lt
          go_wp2_with (fail)
          go_at_call 23
          refine (WY.out _ G5.out.sto).mono ?_
          rintro e w6 ⟨he, hb6⟩
          obtain rfl : e = .returned (.tuple #[.agg #[.int .i64 P1, .int .i64 P2, .bool P3], .int .i64 P4]) := he
          have G6 := Lib.hid ((G5.out.below hb6).below ((Below.refl _ _).alloc (Nat.le_refl _) (.cells #[.int .i64 P1, .int .i64 P2, .bool P3] 41)))
          have R6 := Lib.hid (((R5.out.below hb6)).alloc (.cells #[.int .i64 P1, .int .i64 P2, .bool P3] 41))
          have rp : Row (w6.alloc (.cells #[.int .i64 P1, .int .i64 P2, .bool P3] 41)) w5.heap.size 3 (plCell P1 P2 P3) := ((Row.new w5 #[.int .i64 P1, .int .i64 P2, .bool P3] 41 3 (plCell P1 P2 P3) rfl (pl_get P1 P2 P3)).below hb6).alloc _
          obtain ⟨p0, p1, p2, _, _, _⟩ := pl_facts rp
          have lp := rp.lt
          clear hb6 rp WY c0 c1 c2 c3 c4 lk lb x4' G5 R5 RB5
          obtain ⟨m, hm, hLN⟩ := gk_len G6.out
          have LN := Lib.hid hLN
          have J6 : Hid (CFI w S cb w1.heap.size ⟨kk, ki, kv, kr, kda⟩ ((s : Int) + 1) (i + 1 : Nat) D (w6.alloc (.cells #[.int .i64 P1, .int .i64 P2, .bool P3] 41))) := ⟨by
            obtain ⟨hits, cs, a1, a2, a3, hl⟩ := G6.out
            exact ⟨hits, cs, a1, by push_cast; omega, a3, hl.less fun x hx => .inl (.inl hx)⟩, R6.out, NCO.out.1, NCO.out.2⟩
          have hm' : ¬ ((s : Int) + 1 < (m : Int)) := by omega
          clear hLN hm G6 R6 NCO
          go_wp2_with (first | (go_at_call 41; refine (LN.out).mono ?_; rintro e w' ⟨rfl, rfl⟩))
          go_roundw
          case rel => exact ⟨i + 1, D, by omega, by go_num, J6⟩
          case measure => simp [intOf]; omega
        · have e1 : (kd == 1) = false := by simpa using h1
          clear h1
          by_cases h2 : kd = 2
          · have e2 : (kd == 2) = true := by simpa using h2
            clear h2
            have NCO := Lib.hid (show (∀ a b, okK (D.nk a b)) ∧ D.nc = 16 from ⟨I.out.ok, I.out.nc⟩)
            obtain ⟨ai, ha, ha16⟩ : ∃ t : Nat, bits .and .i64 da 15 = (t : Int) ∧ t < 16 := ⟨(da % 16).toNat, by rw [and15]; omega, by omega⟩
            obtain ⟨bj, hb, hbj⟩ : ∃ t : Nat, bits .and .i64 db 15 = (t : Int) ∧ t < 16 := ⟨(db % 16).toNat, by rw [and15]; omega, by omega⟩
            obtain ⟨cj, hc, hcj⟩ : ∃ t : Nat, bits .and .i64 dc 15 = (t : Int) ∧ t < 16 := ⟨(dc % 16).toNat, by rw [and15]; omega, by omega⟩
            have RB := Lib.hid (Row.new wr #[.int .i64 kd, .int .i64 da, .int .i64 db, .int .i64 dc, .int .u32 ad] 84 5 (doC kd da db dc ad) rfl (doC_get kd da db dc ad))
            have G1 := Lib.hid (I.out.gk.new (.cells #[.int .i64 kd, .int .i64 da, .int .i64 db, .int .i64 dc, .int .u32 ad] 84))
            have R1 := Lib.hid (I.out.rk.alloc (.cells #[.int .i64 kd, .int .i64 da, .int .i64 db, .int .i64 dc, .int .u32 ad] 84))
            obtain ⟨W1, hW1⟩ : ∃ W1, W1 = wr.alloc (.cells #[.int .i64 kd, .int .i64 da, .int .i64 db, .int .i64 dc, .int .u32 ad] 84) := ⟨_, rfl⟩
            have HW1 := Lib.hid hW1
            have G2 : Hid (Gk w S cb D ((s : Int) + 1) i (fun x => (False ∨ x = w1.heap.size) ∨ x = wr.heap.size) W1) := by rw [hW1]; exact G1
            have RB2 : Hid (Row W1 wr.heap.size 5 (doC kd da db dc ad)) := by rw [hW1]; exact RB
            have R2 : Hid (Row W1 w1.heap.size 5 (⟨kk, ki, kv, kr, kda⟩ : K).cell) := by rw [hW1]; exact R1
            have hs1 : W1.heap.size = wr.heap.size + 1 := by rw [hW1]; simp
            have lS := I.out.gk.sto.lt S.s (.inl rfl)
            have lS2 : ¬ S.s = wr.heap.size := by omega
            have lS3 : ¬ S.s = wr.heap.size + 1 := by omega
            have zI : wr.cell? ⟨S.s, 0, none⟩ = some (.pointer (some ⟨S.n.b, 0, none⟩)) := I.out.gk.sto.p0
            clear I G1 RB R1
            obtain ⟨x, is, hgt, hyes⟩ : ∃ (x : K) (is : Bool), (∀ W, No W S.n D.nc D.na D.nk → Calls Tryd.prog 47 #[.pointer (some ⟨S.n.b, 0, none⟩), .int .i64 ai, .int .i64 cj] W (GotK W x is)) ∧ (is = true → (ai < D.nc ∧ D.na.th ai = true) ∧ okK x) := by
              by_cases hid : ai < D.nc ∧ D.na.th ai = true
              · exact ⟨_, true, fun W hW => get_yes S.n D.nc D.na D.nk ai cj W hW (by have := NCO.out.2; omega) hid.1 hid.2 hcj, fun _ => ⟨hid, NCO.out.1 _ _⟩⟩
              · exact ⟨_, false, fun W hW => get_no S.n D.nc D.na D.nk ai cj W hW (by have := NCO.out.2; omega) hid, fun e => absurd e (by decide)⟩
            have GT := Lib.hid hgt
            have YES := Lib.hid hyes
            clear hgt hyes
            obtain ⟨xk, xi, xv, xr, xd⟩ := x
            go_wp2_with (fail)
            go_cut [21, 22] from 71 to 172 (fun s21 s22 wx => ∃ xb : Nat, s21 = .pointer (some ⟨xb, 0, none⟩) ∧ s22 = .bool is ∧ Hid (Below W1.heap.size W1 wx ∧ W1.heap.size ≤ xb ∧ Row wx xb 5 (⟨xk, xi, xv, xr, xd⟩ : K).cell))
            case first =>
              have NO1 := Lib.hid (show No (wr.alloc (.cells #[.int .i64 kd, .int .i64 da, .int .i64 db, .int .i64 dc, .int .u32 ad] 84)).drew S.n D.nc D.na D.nk from HW1.out ▸ (G2.out.sto.below ((Below.refl _ _).drew)).no)
              have B1 := Lib.hid (show Below W1.heap.size W1 (wr.alloc (.cells #[.int .i64 kd, .int .i64 da, .int .i64 db, .int .i64 dc, .int .u32 ad] 84)).drew from HW1.out ▸ (Below.refl _ _).drew)
              have z0 := zI
              have ZB : Hid (Row ((wr.alloc (.cells #[.int .i64 kd, .int .i64 da, .int .i64 db, .int .i64 dc, .int .u32 ad] 84)).alloc (.cells #[.int .i64 0, .int .i64 0, .int .i64 0, .int .i64 0, .int .u32 0] 36)).drew (wr.heap.size + 1) 5 K.zero.cell) := by
                have h := K.zero.box (wr.alloc (.cells #[.int .i64 kd, .int .i64 da, .int .i64 db, .int .i64 dc, .int .u32 ad] 84)) 36
                rw [World.size_alloc] at h
                exact h.of_block rfl
              have NO2 := Lib.hid (show No ((wr.alloc (.cells #[.int .i64 kd, .int .i64 da, .int .i64 db, .int .i64 dc, .int .u32 ad] 84)).alloc (.cells #[.int .i64 0, .int .i64 0, .int .i64 0, .int .i64 0, .int .u32 0] 36)).drew S.n D.nc D.na D.nk from NO1.out.below ((Below.refl _ _).alloc (Nat.le_refl _) (.cells #[.int .i64 0, .int .i64 0, .int .i64 0, .int .i64 0, .int .u32 0] 36)))
              have B2 := Lib.hid (show Below W1.heap.size W1 ((wr.alloc (.cells #[.int .i64 kd, .int .i64 da, .int .i64 db, .int .i64 dc, .int .u32 ad] 84)).alloc (.cells #[.int .i64 0, .int .i64 0, .int .i64 0, .int .i64 0, .int .u32 0] 36)).drew from HW1.out ▸ ((Below.refl _ _).alloc (Nat.le_refl _) (.cells #[.int .i64 0, .int .i64 0, .int .i64 0, .int .i64 0, .int .u32 0] 36)).drew)
              go_region_with ((go_at_call 47; refine (GT.out _ (by first | exact NO1.out | exact NO2.out)).mono ?_; rintro e w5 ⟨rfl, hb5⟩; (first | (have r5 : Row w5 (wr.heap.size + 1) 5 K.zero.cell := ZB.out.below hb5; have B5 := Lib.hid (B2.out.trans (hb5.mono B2.out.size)); have R5 := Lib.hid r5; obtain ⟨y0, y1, y2, y3, y4⟩ := K.facts r5; have f0 := r5.frozen 0; have f1 := r5.frozen 1; have f2 := r5.frozen 2; have f3 := r5.frozen 3; have f4 := r5.frozen 4; clear r5) | (have B5 := Lib.hid (B1.out.trans (hb5.mono B1.out.size)))); clear hb5))
              all_goals (go_wp2_with (fail); go_meet; first | (have r5 := R5.out; exact ⟨wr.heap.size + 1, rfl, rfl, Lib.hid ⟨box_below2 B5.out (Nat.le_of_eq hs1) _ _ _ _ _, Nat.le_of_eq hs1, box_set (k' := ⟨xk, xi, xv, xr, xd⟩) r5⟩⟩) | exact ⟨w5.heap.size, rfl, rfl, Lib.hid ⟨B5.out.alloc B5.out.size _, B5.out.size, K.box ⟨xk, xi, xv, xr, xd⟩ w5 36⟩⟩)
            case rest =>
              obtain ⟨xb, rfl, rfl, hh⟩ := hcut
              have H := Lib.hid hh.out
              have lxb := H.out.2.2.lt
              have G5 := Lib.hid (G2.out.below H.out.1)
              have RB5 := Lib.hid (RB2.out.below H.out.1)
              have R5 := Lib.hid (R2.out.below H.out.1)
              clear hh
              cases is
              · clear YES GT HW1
                have J5 : Hid (CFI w S cb w1.heap.size ⟨kk, ki, kv, kr, kda⟩ ((s : Int) + 1) (i + 1 : Nat) D wc) := ⟨by
                  obtain ⟨hits, cs, a1, a2, a3, hl⟩ := G5.out
                  exact ⟨hits, cs, a1, by push_cast; omega, a3, hl.less fun x hx => .inl hx⟩, R5.out, NCO.out.1, NCO.out.2⟩
                go_wp2
                go_roundw
                case rel => exact ⟨i + 1, D, by omega, by go_num, J5⟩
                case measure => simp [intOf]; omega
              · have TH := Lib.hid (YES.out rfl).1
                have OKX0 := Lib.hid (YES.out rfl).2
                have x3 : wc.cell? ⟨wr.heap.size, 3, none⟩ = some (.int .i64 dc) := RB5.out.cell 3 (by omega)
                have lrb := RB5.out.lt
                have HX := Lib.hid (show W1.heap.size ≤ xb from H.out.2.1)
                clear YES GT
                by_cases hq : (bits .and .i64 dc 16 != 0) = true
                · obtain ⟨fy0, fy1, fy2, fy3, fy4⟩ := K.facts H.out.2.2
                  have fx0 := H.out.2.2.frozen 0
                  have fx1 := H.out.2.2.frozen 1
                  have fx2 := H.out.2.2.frozen 2
                  have fx3 := H.out.2.2.frozen 3
                  have fx4 := H.out.2.2.frozen 4
                  obtain ⟨wz, hwz⟩ : ∃ wz, wz = ((((wc.setCell ⟨xb, 0, none⟩ (.int .i64 0)).setCell ⟨xb, 1, none⟩ (.int .i64 0)).setCell ⟨xb, 2, none⟩ (.int .i64 0)).setCell ⟨xb, 3, none⟩ (.int .i64 0)).setCell ⟨xb, 4, none⟩ (.int .u32 0) := ⟨_, rfl⟩
                  have BZ : Below W1.heap.size W1 wz := by rw [hwz]; exact box_below2 H.out.1 H.out.2.1 _ _ _ _ _
                  have RXz : Hid (Row wz xb 5 K.zero.cell) := by rw [hwz]; exact box_set (k' := K.zero) H.out.2.2
                  have RBz := Lib.hid (RB2.out.below BZ)
                  have Rz := Lib.hid (R2.out.below BZ)
                  have HWZ := Lib.hid hwz
                  have OKX := Lib.hid ok_zero
                  obtain ⟨hits, cs, a1, a2, a3, hl⟩ := G2.out.below BZ
                  have Lz := Lib.hid hl
                  have A3 := Lib.hid a3
                  have HH := Lib.hid (And.intro a1 a2)
                  have RXN : Hid (¬ xb = S.n.k) := fun e => by
                    have h1 := G2.out.sto.lt S.n.k (.inr (.inl (NA.hk _)))
                    have h2 := HX.out
                    omega
                  clear hl a3 a1 a2 hwz BZ G5 RB5 R5 G2 RB2 R2 H OKX0
                  go_wp2_with (fail)
                  rw [← HWZ.out]
                  clear fx0 fx1 fx2 fx3 fx4 fy0 fy1 fy2 fy3 fy4 x3 HWZ
                  have z0 := Lz.out.sto.p0
                  obtain ⟨q0, q1, q2, q3, q4⟩ := K.facts RXz.out
                  have y2 : wz.cell? ⟨wr.heap.size, 2, none⟩ = some (.int .i64 db) := RBz.out.cell 2 (by omega)
                  have lz0 := Lz.out.sto.lt S.s (.inl rfl)
                  have lz1 := RBz.out.lt
                  have lz2 := RXz.out.lt
                  have RBN : Hid (¬ wr.heap.size = S.n.k) := fun e => (Lz.out.hX _ (.inr rfl)).2.2 (e ▸ .inr (.inl (NA.hk _)))
                  have RKN : Hid (¬ w1.heap.size = S.n.k) := fun e => (Lz.out.hX _ (.inl (.inr rfl))).2.2 (e ▸ .inr (.inl (NA.hk _)))
                  have ST := Lib.hid (set_yes S.n D.nc D.na D.nk ai bj K.zero wz.drew Lz.out.drew.sto.no (by have := NCO.out.2; omega) TH.out.1 TH.out.2 hbj OKX.out)
                  go_region_held3 (fun W => W.cell? ⟨S.s, 0, none⟩ = some (.pointer (some ⟨S.n.b, 0, none⟩)) ∧ W.cell? ⟨wr.heap.size, 2, none⟩ = some (.int .i64 db) ∧ W.cell? ⟨xb, 0, none⟩ = some (.int .i64 0) ∧ W.cell? ⟨xb, 1, none⟩ = some (.int .i64 0) ∧ W.cell? ⟨xb, 2, none⟩ = some (.int .i64 0) ∧ W.cell? ⟨xb, 3, none⟩ = some (.int .i64 0) ∧ W.cell? ⟨xb, 4, none⟩ = some (.int .u32 0))
                    (first | exact ⟨z0, z1, z2, z3, z4, z5, z6⟩ | exact ⟨z0, y2, q0, q1, q2, q3, q4⟩ | go_keep)
                    ((go_at_call 24; refine (ST.out).mono ?_; rintro e w7 ⟨rfl, hno, ho⟩; have J7 := Lib.hid (Lz.out.drew.set hno ho); have R7 := Lib.hid ((Rz.out.of_block rfl : Row wz.drew w1.heap.size 5 (⟨kk, ki, kv, kr, kda⟩ : K).cell).only ho RKN.out); have z0 := J7.out.1.sto.p0; have z1 : w7.cell? ⟨wr.heap.size, 2, none⟩ = some (.int .i64 db) := ((RBz.out.of_block rfl : Row wz.drew wr.heap.size 5 (doC kd da db dc ad)).only ho RBN.out).cell 2 (by omega); obtain ⟨z2, z3, z4, z5, z6⟩ := K.facts ((RXz.out.of_block rfl : Row wz.drew xb 5 (K.zero).cell).only ho RXN.out); clear hno ho))
                  have L7 := Lib.hid J7.out.1
                  have FG := Lib.hid (show Calls Tryd.prog 48 #[.pointer (some ⟨cb, 0, none⟩), .slice (some ⟨w7.heap.size, 0, none⟩) 1 1] (w7.alloc (.cells #[.int .i64 ai] 3)) (ForgetL w S cb { D with nk := up2 D.nk ai bj K.zero } ((s : Int) + 1) hits (cs.filter fun c => !thr [(ai : Int)] c.ns) (fun x => ((False ∨ x = w1.heap.size) ∨ x = wr.heap.size) ∨ x = w7.heap.size) (w7.alloc (.cells #[.int .i64 ai] 3))) from lk_forget w7.heap.size 1 [(ai : Int)] (L7.out.new _) (num1 w7 ai 3) (by simp) (.inr rfl) (fun c hc => by have := (A3.out c hc).1; omega))
                  clear z0 z1 z2 z3 z4 z5 z6 q0 q1 q2 q3 q4 y2 lz0 lz1 lz2 J7 ST RBN RKN RXN Lz RXz RBz Rz
                  go_wp2_with (fail)
                  go_at_call 48
                  refine (FG.out).mono ?_
                  rintro e w9 ⟨rfl, hl9, hk9⟩
                  have R9 := Lib.hid ((R7.out.alloc (.cells #[.int .i64 ai] 3)).of_block (w' := w9) (hk9.2 _ (.inl (.inl (.inr rfl)))))
                  have J9 : Hid (CFI w S cb w1.heap.size ⟨kk, ki, kv, kr, kda⟩ ((s : Int) + 1) (i + 1 : Nat) { D with nk := up2 D.nk ai bj K.zero } w9) := ⟨⟨hits, _, HH.out.1, by have := HH.out.2; push_cast; omega, (A3.out.filter _).set ai bj K.zero thr_no, hl9.less fun x hx => .inl (.inl hx)⟩, R9.out, up2_ok NCO.out.1 OKX.out ai bj, NCO.out.2⟩
                  clear hl9 hk9 FG R7 L7 R9
                  obtain ⟨m, hm, hLN⟩ := gk_len J9.out.gk
                  have LN := Lib.hid hLN
                  have hm' : ¬ ((s : Int) + 1 < (m : Int)) := by omega
                  clear hLN hm
                  go_wp2_with (first | (go_at_call 41; refine (LN.out).mono ?_; rintro e w' ⟨rfl, rfl⟩))
                  go_roundw
                  case rel => exact ⟨i + 1, { D with nk := up2 D.nk ai bj K.zero }, by omega, by go_num, J9⟩
                  case measure => simp [intOf]; omega
                · have hq' : (bits .and .i64 dc 16 != 0) = false := by simpa using hq
                  obtain ⟨wz, hwz⟩ : ∃ wz, wz = wc := ⟨_, rfl⟩
                  subst hwz
                  have RXz := Lib.hid H.out.2.2
                  have RBz := RB5
                  have Rz := R5
                  have OKX := OKX0
                  obtain ⟨hits, cs, a1, a2, a3, hl⟩ := G5.out
                  have Lz := Lib.hid hl
                  have A3 := Lib.hid a3
                  have HH := Lib.hid (And.intro a1 a2)
                  have RXN : Hid (¬ xb = S.n.k) := fun e => by
                    have h1 := G2.out.sto.lt S.n.k (.inr (.inl (NA.hk _)))
                    have h2 := HX.out
                    omega
                  clear hl a3 a1 a2 G5 RB5 R5 G2 RB2 R2 H OKX0 hq
                  go_wp2_with (fail)
                  clear x3
                  have z0 := Lz.out.sto.p0
                  obtain ⟨q0, q1, q2, q3, q4⟩ := K.facts RXz.out
                  have y2 : wz.cell? ⟨wr.heap.size, 2, none⟩ = some (.int .i64 db) := RBz.out.cell 2 (by omega)
                  have lz0 := Lz.out.sto.lt S.s (.inl rfl)
                  have lz1 := RBz.out.lt
                  have lz2 := RXz.out.lt
                  have RBN : Hid (¬ wr.heap.size = S.n.k) := fun e => (Lz.out.hX _ (.inr rfl)).2.2 (e ▸ .inr (.inl (NA.hk _)))
                  have RKN : Hid (¬ w1.heap.size = S.n.k) := fun e => (Lz.out.hX _ (.inl (.inr rfl))).2.2 (e ▸ .inr (.inl (NA.hk _)))
                  have ST := Lib.hid (set_yes S.n D.nc D.na D.nk ai bj (⟨xk, xi, xv, xr, xd⟩ : K) wz.drew Lz.out.drew.sto.no (by have := NCO.out.2; omega) TH.out.1 TH.out.2 hbj OKX.out)
                  go_region_held3 (fun W => W.cell? ⟨S.s, 0, none⟩ = some (.pointer (some ⟨S.n.b, 0, none⟩)) ∧ W.cell? ⟨wr.heap.size, 2, none⟩ = some (.int .i64 db) ∧ W.cell? ⟨xb, 0, none⟩ = some (.int .i64 xk) ∧ W.cell? ⟨xb, 1, none⟩ = some (.int .i64 xi) ∧ W.cell? ⟨xb, 2, none⟩ = some (.int .i64 xv) ∧ W.cell? ⟨xb, 3, none⟩ = some (.int .i64 xr) ∧ W.cell? ⟨xb, 4, none⟩ = some (.int .u32 xd))
                    (first | exact ⟨z0, z1, z2, z3, z4, z5, z6⟩ | exact ⟨z0, y2, q0, q1, q2, q3, q4⟩ | go_keep)
                    ((go_at_call 24; refine (ST.out).mono ?_; rintro e w7 ⟨rfl, hno, ho⟩; have J7 := Lib.hid (Lz.out.drew.set hno ho); have R7 := Lib.hid ((Rz.out.of_block rfl : Row wz.drew w1.heap.size 5 (⟨kk, ki, kv, kr, kda⟩ : K).cell).only ho RKN.out); have z0 := J7.out.1.sto.p0; have z1 : w7.cell? ⟨wr.heap.size, 2, none⟩ = some (.int .i64 db) := ((RBz.out.of_block rfl : Row wz.drew wr.heap.size 5 (doC kd da db dc ad)).only ho RBN.out).cell 2 (by omega); obtain ⟨z2, z3, z4, z5, z6⟩ := K.facts ((RXz.out.of_block rfl : Row wz.drew xb 5 ((⟨xk, xi, xv, xr, xd⟩ : K)).cell).only ho RXN.out); clear hno ho))
                  have L7 := Lib.hid J7.out.1
                  have FG := Lib.hid (show Calls Tryd.prog 48 #[.pointer (some ⟨cb, 0, none⟩), .slice (some ⟨w7.heap.size, 0, none⟩) 1 1] (w7.alloc (.cells #[.int .i64 ai] 3)) (ForgetL w S cb { D with nk := up2 D.nk ai bj (⟨xk, xi, xv, xr, xd⟩ : K) } ((s : Int) + 1) hits (cs.filter fun c => !thr [(ai : Int)] c.ns) (fun x => ((False ∨ x = w1.heap.size) ∨ x = wr.heap.size) ∨ x = w7.heap.size) (w7.alloc (.cells #[.int .i64 ai] 3))) from lk_forget w7.heap.size 1 [(ai : Int)] (L7.out.new _) (num1 w7 ai 3) (by simp) (.inr rfl) (fun c hc => by have := (A3.out c hc).1; omega))
                  clear z0 z1 z2 z3 z4 z5 z6 q0 q1 q2 q3 q4 y2 lz0 lz1 lz2 J7 ST RBN RKN RXN Lz RXz RBz Rz
                  go_wp2_with (fail)
                  go_at_call 48
                  refine (FG.out).mono ?_
                  rintro e w9 ⟨rfl, hl9, hk9⟩
                  have R9 := Lib.hid ((R7.out.alloc (.cells #[.int .i64 ai] 3)).of_block (w' := w9) (hk9.2 _ (.inl (.inl (.inr rfl)))))
                  have J9 : Hid (CFI w S cb w1.heap.size ⟨kk, ki, kv, kr, kda⟩ ((s : Int) + 1) (i + 1 : Nat) { D with nk := up2 D.nk ai bj (⟨xk, xi, xv, xr, xd⟩ : K) } w9) := ⟨⟨hits, _, HH.out.1, by have := HH.out.2; push_cast; omega, (A3.out.filter _).set ai bj (⟨xk, xi, xv, xr, xd⟩ : K) thr_no, hl9.less fun x hx => .inl (.inl hx)⟩, R9.out, up2_ok NCO.out.1 OKX.out ai bj, NCO.out.2⟩
                  clear hl9 hk9 FG R7 L7 R9
                  obtain ⟨m, hm, hLN⟩ := gk_len J9.out.gk
                  have LN := Lib.hid hLN
                  have hm' : ¬ ((s : Int) + 1 < (m : Int)) := by omega
                  clear hLN hm
                  go_wp2_with (first | (go_at_call 41; refine (LN.out).mono ?_; rintro e w' ⟨rfl, rfl⟩))
                  go_roundw
                  case rel => exact ⟨i + 1, { D with nk := up2 D.nk ai bj (⟨xk, xi, xv, xr, xd⟩ : K) }, by omega, by go_num, J9⟩
                  case measure => simp [intOf]; omega
          · have e2 : (kd == 2) = false := by simpa using h2
            clear h2
            obtain ⟨hits, cs, a1, a2, a3, hl⟩ := I.out.gk
            have CL := Lib.hid (lk_clear (hl.alloc (.cells #[.int .i64 kd, .int .i64 da, .int .i64 db, .int .i64 dc, .int .u32 ad] 84)))
            have R1 := Lib.hid (I.out.rk.alloc (.cells #[.int .i64 kd, .int .i64 da, .int .i64 db, .int .i64 dc, .int .u32 ad] 84))
            have NCO := Lib.hid (show (∀ a b, okK (D.nk a b)) ∧ D.nc = 16 from ⟨I.out.ok, I.out.nc⟩)
            clear I hl a3
            go_wp2_with (fail)
            go_at_call 45
            refine (CL.out).mono ?_
            rintro e w5 ⟨rfl, hl5, hk5⟩
            have LN := Lib.hid (show Calls Tryd.prog 41 #[.pointer (some ⟨cb, 0, none⟩)] w5 (fun e W' => e = .returned (.int .i64 0) ∧ w5 = W') from lk_len hl5)
            have J5 : Hid (CFI w S cb w1.heap.size ⟨kk, ki, kv, kr, kda⟩ ((s : Int) + 1) (i + 1 : Nat) D w5) := ⟨⟨hits, [], a1, by push_cast; omega, Good.nil _, hl5⟩, R1.out.of_block (hk5.2 _ (.inr rfl)), NCO.out.1, NCO.out.2⟩
            have hs0 : ¬ ((s : Int) + 1 < 0) := by omega
            clear hl5 hk5 CL R1 NCO a1 a2 c0 c1 c2 c3 c4 lk
            go_wp2_with (first | (go_at_call 41; refine (LN.out).mono ?_; rintro e w' ⟨rfl, rfl⟩))
            go_roundw
            case rel => exact ⟨i + 1, D, by omega, by go_num, J5⟩
            case measure => simp [intOf]; omega
      · obtain rfl : i = acts.length := by omega
        have hb := Lib.hid I.out.gk.bel
        have hlt : ¬ (acts.length : Int) < acts.length := by omega
        clear I
        go_wp2
        go_ret
        exact ⟨rfl, hb.out⟩
end Go.Proofs.YtdlemkmkheokkaaDoor
