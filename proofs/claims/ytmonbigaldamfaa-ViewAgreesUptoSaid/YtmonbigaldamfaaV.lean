/- The view: how it lies in memory; contracts of its methods. -/
import Derived.Test.YtmonbigaldamfaaB
namespace Go.Osm
open Go.RowKit


def ints (xs : List Int) : Array Value := (xs.map (Value.int .i64)).toArray
def ents (xs : List Entry) : Array Value := (xs.flatMap Entry.cells).toArray

/-- A view at block g, its lists at gs and gt. -/
structure ViewAt (tv te ti : Nat) (w : World) (g gs gt : Nat) (V : View) : Prop where
  blk : w.heap[g]? = some (.cells #[.int .i64 V.me, .int .i64 V.last, .int .i64 V.probed, .int .i64 V.since, .slice (some ⟨gs, 0, none⟩) V.tab.length V.tab.length, .slice (some ⟨gt, 0, none⟩) V.tab.length V.tab.length] tv (0, 0))
  bs : w.heap[gs]? = some (.cells (ints V.susp) ti (0, 0))
  bt : w.heap[gt]? = some (.cells (ents V.tab) te (0, 0))
  len : V.susp.length = V.tab.length
  small : V.tab.length ≤ 5
section
variable {tv te ti : Nat} {w w' : World} {g gs gt : Nat} {V : View}
theorem ViewAt.chg {S : List Nat} (h : ViewAt tv te ti w g gs gt V) (hc : Chg S w w') (h1 : g ∉ S) (h2 : gs ∉ S) (h3 : gt ∉ S) : ViewAt tv te ti w' g gs gt V :=
  ⟨hc.blk h.blk h1, hc.blk h.bs h2, hc.blk h.bt h3, h.len, h.small⟩
theorem ViewAt.c (h : ViewAt tv te ti w g gs gt V) : w.cell? ⟨g, 0, none⟩ = some (.int .i64 V.me) ∧ w.cell? ⟨g, 1, none⟩ = some (.int .i64 V.last) ∧ w.cell? ⟨g, 2, none⟩ = some (.int .i64 V.probed) ∧ w.cell? ⟨g, 3, none⟩ = some (.int .i64 V.since) ∧
    w.cell? ⟨g, 4, none⟩ = some (.slice (some ⟨gs, 0, none⟩) V.tab.length V.tab.length) ∧ w.cell? ⟨g, 5, none⟩ = some (.slice (some ⟨gt, 0, none⟩) V.tab.length V.tab.length) := by
  refine ⟨?_, ?_, ?_, ?_, ?_, ?_⟩ <;> rw [blk_cell h.blk] <;> rfl
theorem ViewAt.f (h : ViewAt tv te ti w g gs gt V) (i : Nat) : w.frozen? ⟨g, i, none⟩ = false := blk_frozen h.blk i
theorem ViewAt.fs (h : ViewAt tv te ti w g gs gt V) (i : Nat) : w.frozen? ⟨gs, i, none⟩ = false := blk_frozen h.bs i
theorem ViewAt.ft (h : ViewAt tv te ti w g gs gt V) (i : Nat) : w.frozen? ⟨gt, i, none⟩ = false := blk_frozen h.bt i
theorem ViewAt.cs (h : ViewAt tv te ti w g gs gt V) (k : Nat) (hk : k < V.tab.length) : w.cell? ⟨gs, k, none⟩ = some (.int .i64 (V.sus k)) := by
  rw [blk_cell h.bs]
  have : k < V.susp.length := by rw [h.len]; exact hk
  simp [ints, View.sus, this]
theorem ViewAt.ct (h : ViewAt tv te ti w g gs gt V) (k : Nat) (hk : k < V.tab.length) : w.cell? ⟨gt, k * 5, none⟩ = some (.int .i64 (V.at k).inc) ∧ w.cell? ⟨gt, k * 5 + 1, none⟩ = some (.int .i64 (V.at k).status) ∧
    w.cell? ⟨gt, k * 5 + 2, none⟩ = some (.int .i64 (V.at k).stamp) ∧ w.cell? ⟨gt, k * 5 + 3, none⟩ = some (.int .i64 (V.at k).load) ∧ w.cell? ⟨gt, k * 5 + 4, none⟩ = some (.bool (V.at k).drain) := by
  have hg := fun j hj => flat_get Entry.cells 5 Entry.cells_len V.tab k hk j hj
  have e : V.at k = V.tab[k] := by simp [View.at, hk]
  have h0 := hg 0 (by omega)
  rw [Nat.add_zero] at h0
  rw [e]
  refine ⟨?_, ?_, ?_, ?_, ?_⟩ <;> rw [blk_cell h.bt] <;> simp only [ents, List.getElem?_toArray]
  · rw [h0]; rfl
  · rw [hg 1 (by omega)]; rfl
  · rw [hg 2 (by omega)]; rfl
  · rw [hg 3 (by omega)]; rfl
  · rw [hg 4 (by omega)]; rfl
theorem ViewAt.alloc (h : ViewAt tv te ti w g gs gt V) (o : Obj) : ViewAt tv te ti (w.alloc o) g gs gt V := ⟨blk_alloc h.blk o, blk_alloc h.bs o, blk_alloc h.bt o, h.len, h.small⟩
theorem ViewAt.drew (h : ViewAt tv te ti w g gs gt V) : ViewAt tv te ti w.drew g gs gt V := ⟨h.blk, h.bs, h.bt, h.len, h.small⟩
theorem ViewAt.drewN (h : ViewAt tv te ti w g gs gt V) (n : Nat) : ViewAt tv te ti (w.drewN n) g gs gt V := ⟨h.blk, h.bs, h.bt, h.len, h.small⟩
theorem ViewAt.below (h : ViewAt tv te ti w g gs gt V) (hb : Below w.heap.size w w') : ViewAt tv te ti w' g gs gt V := h.chg (S := []) (Chg.of_below hb) (by simp) (by simp) (by simp)
theorem ViewAt.sus_set (h : ViewAt tv te ti w g gs gt V) (n1 : g ≠ gs) (n3 : gt ≠ gs) (k : Nat) (now : Int) : ViewAt tv te ti (w.setCell ⟨gs, k, none⟩ (.int .i64 now)) g gs gt { V with susp := V.susp.set k now } :=
  ⟨blk_far h.blk n1 _, by have := blk_set h.bs k (.int .i64 now); simpa [ints, List.map_set] using this, blk_far h.bt n3 _, by simpa using h.len, h.small⟩
theorem ViewAt.tab_cell (h : ViewAt tv te ti w g gs gt V) (n1 : g ≠ gt) (n3 : gs ≠ gt) (k : Nat) (hk : k < V.tab.length) (j : Nat) (hj : j < 5) (u : Value) (x' : Entry) (hx : (Entry.cells V.tab[k]).set j u = Entry.cells x') :
    ViewAt tv te ti (w.setCell ⟨gt, k * 5 + j, none⟩ u) g gs gt { V with tab := V.tab.set k x' } :=
  ⟨by simpa using blk_far h.blk n1 u, blk_far h.bs n3 u, by have := blk_set h.bt (k * 5 + j) u; rw [this]; simp only [ents, List.setIfInBounds_toArray]; rw [flat_set Entry.cells 5 Entry.cells_len V.tab k hk j u x' hj hx], by simpa using h.len, by simpa using h.small⟩
theorem ViewAt.tab_set (h : ViewAt tv te ti w g gs gt V) (n1 : g ≠ gt) (n3 : gs ≠ gt) (k : Nat) (hk : k < V.tab.length) (x : Entry) :
    ViewAt tv te ti (((((w.setCell ⟨gt, k * 5, none⟩ (.int .i64 x.inc)).setCell ⟨gt, k * 5 + 1, none⟩ (.int .i64 x.status)).setCell ⟨gt, k * 5 + 2, none⟩ (.int .i64 x.stamp)).setCell ⟨gt, k * 5 + 3, none⟩ (.int .i64 x.load)).setCell ⟨gt, k * 5 + 4, none⟩ (.bool x.drain)) g gs gt { V with tab := V.tab.set k x } := by
  have h1 := h.tab_cell n1 n3 k hk 0 (by omega) (.int .i64 x.inc) { V.tab[k] with inc := x.inc } rfl
  have h2 := h1.tab_cell n1 n3 k (by simpa using hk) 1 (by omega) (.int .i64 x.status) { V.tab[k] with inc := x.inc, status := x.status } (by simp [Entry.cells])
  have h3 := h2.tab_cell n1 n3 k (by simpa using hk) 2 (by omega) (.int .i64 x.stamp) { V.tab[k] with inc := x.inc, status := x.status, stamp := x.stamp } (by simp [Entry.cells])
  have h4 := h3.tab_cell n1 n3 k (by simpa using hk) 3 (by omega) (.int .i64 x.load) { V.tab[k] with inc := x.inc, status := x.status, stamp := x.stamp, load := x.load } (by simp [Entry.cells])
  have h5 := h4.tab_cell n1 n3 k (by simpa using hk) 4 (by omega) (.bool x.drain) x (by simp [Entry.cells])
  simpa [List.set_set] using h5
theorem ViewAt.lastc (h : ViewAt tv te ti w g gs gt V) (n1 : g ≠ gs) (n2 : g ≠ gt) (p : Int) : ViewAt tv te ti (w.setCell ⟨g, 1, none⟩ (.int .i64 p)) g gs gt { V with last := p } :=
  ⟨by simpa using blk_set h.blk 1 (.int .i64 p), blk_far h.bs n1.symm _, blk_far h.bt n2.symm _, h.len, h.small⟩
theorem ViewAt.sincec (h : ViewAt tv te ti w g gs gt V) (n1 : g ≠ gs) (n2 : g ≠ gt) (p : Int) : ViewAt tv te ti (w.setCell ⟨g, 3, none⟩ (.int .i64 p)) g gs gt { V with since := p } :=
  ⟨by simpa using blk_set h.blk 3 (.int .i64 p), blk_far h.bs n1.symm _, blk_far h.bt n2.symm _, h.len, h.small⟩
theorem ViewAt.probe (h : ViewAt tv te ti w g gs gt V) (n1 : g ≠ gs) (n2 : g ≠ gt) (p : Int) : ViewAt tv te ti (w.setCell ⟨g, 2, none⟩ (.int .i64 p)) g gs gt { V with probed := p } :=
  ⟨by simpa using blk_set h.blk 2 (.int .i64 p), blk_far h.bs n1.symm _, blk_far h.bt n2.symm _, h.len, h.small⟩
end

end Go.Osm
namespace Go.Proofs.Ytmonbigaldamfaa
open Go.RowKit Go.Osm
abbrev VA := ViewAt 67 39 3

set_option maxHeartbeats 1000000 in
theorem view_set (V : View) (g gs gt : Nat) (w : World) (hV : VA w g gs gt V) (now : Int) (k : Nat) (hk : k < V.tab.length) (x : Entry) :
    Calls Try.prog 36 #[.pointer (some ⟨g, 0, none⟩), .int .i64 now, .int .i64 k, x.val] w fun e w' => e = .returned (.tuple #[]) ∧ VA w' g gs gt (V.setE now k x) ∧ Chg [g, gs, gt] w w' := by
  obtain ⟨c0, c1, c2, c3, c4, c5⟩ := hV.c
  have f0 := hV.f
  have f1 := hV.fs
  have f2 := hV.ft
  have d := hV.cs k hk
  obtain ⟨e0, e1, e2, e3, e4⟩ := hV.ct k hk
  have hs := hV.small
  have lg := blk_lt hV.blk
  have ls := blk_lt hV.bs
  have lt := blk_lt hV.bt
  have n1 : g ≠ gs := blk_ne hV.blk hV.bs (by decide)
  have n2 : g ≠ gt := blk_ne hV.blk hV.bt (by decide)
  have n3 : gs ≠ gt := blk_ne hV.bs hV.bt (by decide)
  unfold Entry.val
  go_enter Try.func36, Try.ntmps36
  go_wp2
  all_goals go_region
  all_goals go_end0
  all_goals (refine ⟨rfl, ?_, by (repeat (first | with_reducible exact Chg.refl _ _ | with_reducible refine Chg.drew ?_ | with_reducible refine Chg.alloc ?_ _ | with_reducible refine Chg.setCell ?_ (.inl (by simp)) _ | with_reducible refine Chg.setCell ?_ (.inr (by simp <;> omega)) _))⟩)
  all_goals (with_reducible refine ViewAt.drew ?_; with_reducible refine ViewAt.alloc ?_ _; with_reducible refine ViewAt.alloc ?_ _)
  · have h : V.setE now k x = { V with susp := V.susp.set k now, tab := V.tab.set k x } := by simp_all [View.setE]
    rw [h]
    have := (hV.sus_set n1 n3.symm k now).tab_set n2 n3 k hk x
    simp_all
  · have h : V.setE now k x = { V with tab := V.tab.set k x } := by simp_all [View.setE]
    rw [h]
    have := hV.tab_set n2 n3 k hk x
    simp_all
  · have h : V.setE now k x = { V with susp := V.susp.set k now, tab := V.tab.set k x } := by simp_all [View.setE]
    rw [h]
    have := (hV.sus_set n1 n3.symm k now).tab_set n2 n3 k hk x
    simp_all
  · have h : V.setE now k x = { V with tab := V.tab.set k x } := by simp_all [View.setE]
    rw [h]
    exact hV.tab_set n2 n3 k hk x
set_option maxHeartbeats 1000000 in
theorem view_judge (V : View) (g gs gt : Nat) (w : World) (hV : VA w g gs gt V) (now : Int) (k : Nat) (hk : k < V.tab.length) (st : Int) :
    Calls Try.prog 33 #[.pointer (some ⟨g, 0, none⟩), .int .i64 now, .int .i64 k, .int .i64 st] w fun e w' => e = .returned (.tuple #[]) ∧ VA w' g gs gt (V.judge now k st) ∧ Chg [g, gs, gt] w w' := by
  obtain ⟨c0, c1, c2, c3, c4, c5⟩ := hV.c
  have f0 := hV.f
  have f1 := hV.fs
  have f2 := hV.ft
  have hs := hV.small
  have lg := blk_lt hV.blk
  have ls := blk_lt hV.bs
  have lt := blk_lt hV.bt
  have n1 : g ≠ gs := blk_ne hV.blk hV.bs (by decide)
  have n2 : g ≠ gt := blk_ne hV.blk hV.bt (by decide)
  have n3 : gs ≠ gt := blk_ne hV.bs hV.bt (by decide)
  obtain ⟨e0, e1, e2, e3, e4⟩ := hV.ct k hk
  go_enter Try.func33, Try.ntmps33
  go_wp2_with (go_at_call 36; refine (view_set V g gs gt _ (hV.alloc _) now k hk { V.at k with status := st }).mono ?_; rintro e w1 ⟨rfl, hV1, hc⟩)
  go_end0
  exact ⟨rfl, hV1, ((Chg.refl _ _).alloc _).trans hc⟩

theorem view_next (V : View) (g gs gt : Nat) (w : World) (hV : VA w g gs gt V) (h1 : 0 < V.tab.length) :
    Calls Try.prog 34 #[.pointer (some ⟨g, 0, none⟩)] w fun e w' => e = .returned (.int .i64 V.next) ∧ w' = w := by
  obtain ⟨c0, c1, c2, c3, c4, c5⟩ := hV.c
  have hs := hV.small
  go_enter Try.func34, Try.ntmps34
  go_wp2
  all_goals go_ret
  all_goals exact ⟨ret_int (by simp_all [View.next]), rfl⟩

set_option maxRecDepth 100000 in
set_option maxHeartbeats 2000000 in
theorem view_heard (V : View) (g gs gt : Nat) (w : World) (hV : VA w g gs gt V) (now src : Int) (ack : Bool) (I : Nat → Prop) (A : Option Addr) (c : Nat) (xs : List Entry) (hC : kE.C I w A xs) (hx : xs.length ≤ 1000) (hI : ∀ i, I i → i ∉ [g, gs, gt]) :
    Calls Try.prog 16 #[.pointer (some ⟨g, 0, none⟩), .int .i64 now, .int .i64 src, .bool ack, .slice A xs.length c] w fun e w' =>
      e = .returned (.int .i64 (V.heard now src ack xs).2) ∧ VA w' g gs gt (V.heard now src ack xs).1 ∧ Chg [g, gs, gt] w w' := by
  obtain ⟨c0, c1, c2, c3, c4, c5⟩ := hV.c
  have f0 := hV.f
  have f1 := hV.fs
  have f2 := hV.ft
  have hs := hV.small
  have lg := blk_lt hV.blk
  have ls := blk_lt hV.bs
  have lt := blk_lt hV.bt
  have n1 : g ≠ gs := blk_ne hV.blk hV.bs (by decide)
  have n2 : g ≠ gt := blk_ne hV.blk hV.bt (by decide)
  have n3 : gs ≠ gt := blk_ne hV.bs hV.bt (by decide)
  have HC := Lib.hid hC
  have HI := Lib.hid hI
  clear hC hI
  go_enter Try.func16, Try.ntmps16
  go_upto_region 1 with fail
  go_cut [21] (fun s21 wx => s21 = .bool (ack && src == V.probed) ∧ w = wx)
  case first =>
    cases ack
    · go_wp2
      go_meet
      case rel => exact ⟨rfl, rfl⟩
    · go_wp2
      go_meet
      case rel => exact ⟨rfl, rfl⟩
  obtain ⟨rfl, rfl⟩ := hcut
  go_upto_if 21 with fail
  go_cut [] (fun wx => VA wx g gs gt (V.acked src ack) ∧ Chg [g, gs, gt] w wx)
  case first =>
    go_wp2
    · go_meet
      case rel =>
        have h : V.acked src ack = { V with probed := -1 } := by unfold View.acked; split <;> simp_all
        rw [h]
        exact ⟨hV.probe n1 n2 _, (Chg.refl _ _).setCell (.inl (by simp)) _⟩
    · go_meet
      case rel =>
        have h : V.acked src ack = V := by unfold View.acked; split <;> simp_all
        rw [h]
        exact ⟨hV, Chg.refl _ _⟩
  case rest =>
    obtain ⟨hV1, hc1⟩ := hcut
    have hW0 := Lib.hid hV1
    have HE : Hid (V.acked src ack = V.acked src ack) := Lib.hid rfl
    clear c0 c1 c2 c3 c4 c5 f0 f1 f2 lg ls lt hV
    have hme : (V.acked src ack).me = V.me ∧ (V.acked src ack).tab.length = V.tab.length := by unfold View.acked; split <;> exact ⟨rfl, rfl⟩
    have HME := Lib.hid hme
    clear hme
    go_wp2
    go_loopw [10, 27] (fun r i wr => ∃ (k : Nat) (V' : View) (r' : Int), k ≤ xs.length ∧ i = .int .i64 k ∧ r = .int .i64 r' ∧ VA wr g gs gt V' ∧ Chg [g, gs, gt] w wr ∧ Hid (V.heard now src ack xs = V'.heardL now k (xs.drop k) r')) (fun _ i _ => xs.length - (intOf i).toNat)
    case atStart => exact ⟨0, _, 0, Nat.zero_le _, rfl, rfl, hV1, hc1, rfl⟩
    case round =>
      obtain ⟨k, V', r', hk, rfl, rfl, hV, hc, HM⟩ := hrel
      obtain ⟨c0, c1, c2, c3, c4, c5⟩ := hV.c
      have f0 := hV.f
      have f1 := hV.fs
      have f2 := hV.ft
      have hs := hV.small
      have lg := blk_lt hV.blk
      have ls := blk_lt hV.bs
      have lt := blk_lt hV.bt
      by_cases hlt : k < xs.length
      · have hC' : kE.C I wr A xs := Kd.C_move HC.out fun i hi hl => ⟨hc.block i hl (HI.out i hi), hi⟩
        obtain ⟨b, f, rfl, hb, hbl, x0, x1, x2, x3, x4⟩ := ent_at hC' k hlt
        obtain ⟨x, hx⟩ : ∃ x, x = xs[k] := ⟨_, rfl⟩
        rw [← hx] at x0 x1 x2 x3 x4
        have HX := Lib.hid hx
        clear hC' hx hb
        by_cases hk5 : k < V'.tab.length
        · obtain ⟨e0, e1, e2, e3, e4⟩ := hV.ct k hk5
          go_wp2
          · go_roundw
            case rel => exact ⟨k + 1, V', r', by omega, by go_num, rfl, hV.alloc _, hc.alloc _, by rw [HM.out, View.heardL_step _ _ _ _ _ hlt, if_neg (by omega), ← HX.out]; simp_all [View.heard1, Hid]⟩
            case measure => simp [intOf]; omega
          · go_roundw
            case rel => exact ⟨k + 1, V', r', by omega, by go_num, rfl, hV.alloc _, hc.alloc _, by rw [HM.out, View.heardL_step _ _ _ _ _ hlt, if_neg (by omega), ← HX.out]; simp_all [View.heard1, Hid]⟩
            case measure => simp [intOf]; omega
          · have n1' := n1
            refine region_tail 8 (by kernel_rfl) (by kernel_rfl) ?_
            (simp only [List.take_succ_cons, List.take_zero, List.drop_succ_cons, List.drop_zero])
            repeat still_step
            refine wpStill_nil ?_
            go_wp2_with (go_at_call 35; refine (less_any (V'.at k) x _).mono ?_; rintro e w1 ⟨rfl, hb1⟩; have hV1 := ((hV.alloc _).drew).below hb1; obtain ⟨p0, p1, p2, p3, p4, p5⟩ := hV1.c; have q0 := hV1.f; have q1 := hV1.fs; have q2 := hV1.ft; have l0 := blk_lt hV1.blk; have l1 := blk_lt hV1.bs; have l2 := blk_lt hV1.bt; obtain ⟨m0, m1, m2, m3, m4⟩ := hV1.ct k hk5; have y0 : w1.cell? ⟨wr.heap.size, 0, none⟩ = some (.int .i64 x.inc) := cell_below hb1 (by simp); have y1 : w1.cell? ⟨wr.heap.size, 1, none⟩ = some (.int .i64 x.status) := cell_below hb1 (by simp); have y2 : w1.cell? ⟨wr.heap.size, 2, none⟩ = some (.int .i64 x.stamp) := cell_below hb1 (by simp); have y3 : w1.cell? ⟨wr.heap.size, 3, none⟩ = some (.int .i64 x.load) := cell_below hb1 (by simp); have y4 : w1.cell? ⟨wr.heap.size, 4, none⟩ = some (.bool x.drain) := cell_below hb1 (by simp); have hc1 : Chg [g, gs, gt] w w1 := (hc.alloc _).drew.thenB hb1)
            · go_roundw
              case rel => exact ⟨k + 1, V', r', by omega, by go_num, rfl, hV1, hc1, by rw [HM.out, View.heardL_step _ _ _ _ _ hlt, if_neg (by omega), ← HX.out]; simp_all [View.heard1, Hid]⟩
              case measure => simp [intOf]; omega
            · go_region
              go_wp2
              go_roundw
              case rel =>
                refine ⟨k + 1, (V'.heard1 now k x).1, wrap64 (x.inc + 1), by omega, by go_num, by go_num, ?_, ?_, ?_⟩
                · rw [View.heard1_own ‹_› ‹_› ‹_› ‹_›]
                  have h1 := hV1.tab_cell n2 n3 k hk5 0 (by omega) (.int .i64 (wrap64 (x.inc + 1))) { V'.at k with inc := wrap64 (x.inc + 1) } (by simp [View.at, hk5, Entry.cells])
                  have h2 := h1.tab_cell n2 n3 k (by simpa using hk5) 1 (by omega) (.int .i64 0) { V'.at k with inc := wrap64 (x.inc + 1), status := 0 } (by simp [Entry.cells])
                  exact ViewAt.drew (by simpa [List.set_set] using h2)
                · (repeat (first | with_reducible refine Chg.drew ?_ | with_reducible refine Chg.alloc ?_ _ | with_reducible refine Chg.setCell ?_ (.inl (by simp)) _ | with_reducible refine Chg.setCell ?_ (.inr (by simp <;> omega)) _))
                  exact hc1
                · rw [HM.out, View.heardL_step _ _ _ _ _ hlt, if_neg (by omega), ← HX.out, View.heard1_own ‹_› ‹_› ‹_› ‹_›]
                  rfl
              case measure => simp [intOf]; omega
            · refine (view_set V' g gs gt _ hV1 now k hk5 x).mono ?_
              rintro e w2 ⟨rfl, hV2, hc2⟩
              go_wp2
              go_roundw
              case rel => exact ⟨k + 1, _, r', by omega, by go_num, rfl, hV2, hc1.trans hc2, by rw [HM.out, View.heardL_step _ _ _ _ _ hlt, if_neg (by omega), ← HX.out, View.heard1_other ‹_› ‹_› ‹_› ‹_›]; rfl⟩
              case measure => simp [intOf]; omega
        · go_wp2
          go_roundw
          case rel => exact ⟨k + 1, V', r', by omega, by go_num, rfl, hV.alloc _, hc.alloc _, by rw [HM.out, View.heardL_step _ _ _ _ _ hlt, if_pos (by omega)]; rfl⟩
          case measure => simp [intOf]; omega
      · go_wp2
        go_ret
        have hkk : k = xs.length := by omega
        subst hkk
        have hd := HM.out
        rw [List.drop_length, View.heardL] at hd
        exact ⟨ret_int (by rw [hd]), by rw [hd]; exact hV, hc⟩
end Go.Proofs.Ytmonbigaldamfaa
