/- The walk of ViewApart. -/
import Derived.Test.YtmonbigaldamfaaL13
namespace Go.Proofs.Ytmonbigaldamfaa
open Go.RowKit Go.Osm

/-- A row whose numbers at one field may be turned. -/
def Loads (w : World) (g n : Nat) : Prop := ∃ cur, w.heap[g]? = some (.cells cur 39 (0, 0)) ∧ ∀ j, j < n → ∃ z : Int, cur[j * 5 + 3]? = some (.int .i64 z)
theorem Loads.of_fresh {base : Nat} {w : World} {A : Option Addr} {xs : List Entry} (h : Fresh base w 39 A (xs.flatMap Entry.cells)) (hp : 0 < xs.length) : ∃ g, A = some ⟨g, 0, none⟩ ∧ base ≤ g ∧ g < w.heap.size ∧ Loads w g xs.length := by
  rcases h with h | ⟨g, cur, h1, h2, h3, h4⟩
  · have := flat_len Entry.cells 5 Entry.cells_len xs
    rw [h] at this
    simp at this
    omega
  · refine ⟨g, h1, h2, blk_lt h3, cur, h3, fun j hj => ⟨(xs[j]).load, ?_⟩⟩
    have hg := flat_get Entry.cells 5 Entry.cells_len xs j hj 3 (by omega)
    rw [← h4, List.getElem?_take] at hg
    split at hg
    · simpa [Entry.cells] using hg
    · simp [Entry.cells] at hg
theorem Loads.lt {w : World} {g n : Nat} (h : Loads w g n) : g < w.heap.size := by
  obtain ⟨cur, h, _⟩ := h
  exact blk_lt h
theorem Loads.at {w : World} {g n : Nat} (h : Loads w g n) (j : Nat) (hj : j < n) : ∃ z : Int, w.cell? ⟨g, j * 5 + 3, none⟩ = some (.int .i64 z) ∧ w.frozen? ⟨g, j * 5 + 3, none⟩ = false := by
  obtain ⟨cur, h1, h2⟩ := h
  obtain ⟨z, hz⟩ := h2 j hj
  exact ⟨z, by rw [blk_cell h1]; exact hz, blk_frozen h1 _⟩
theorem Loads.set {w : World} {g n : Nat} (h : Loads w g n) (j : Nat) (z : Int) : Loads (w.setCell ⟨g, j * 5 + 3, none⟩ (.int .i64 z)) g n := by
  obtain ⟨cur, h1, h2⟩ := h
  refine ⟨_, blk_set h1 _ _, fun i hi => ?_⟩
  obtain ⟨y, hy⟩ := h2 i hi
  by_cases he : j = i
  · subst he
    refine ⟨z, ?_⟩
    rw [Array.getElem?_setIfInBounds_self]
    have := (Array.getElem?_eq_some_iff.1 hy).1
    simp [this]
  · exact ⟨y, by rw [Array.getElem?_setIfInBounds_ne (by omega)]; exact hy⟩
theorem Loads.chg {S : List Nat} {w w' : World} {g n : Nat} (h : Loads w g n) (hc : Chg S w w') (hg : g ∉ S) : Loads w' g n := by
  obtain ⟨cur, h1, h2⟩ := h
  exact ⟨cur, hc.blk h1 hg, h2⟩
/-- A row of whole numbers that may be turned. -/
def Nums (w : World) (g n : Nat) : Prop := ∃ cur, w.heap[g]? = some (.cells cur 3 (0, 0)) ∧ n ≤ cur.size
theorem Nums.of_fresh {base : Nat} {w : World} {A : Option Addr} {xs : List Int} (h : Fresh base w 3 A (xs.map (Value.int .i64))) (hp : 0 < xs.length) : ∃ g, A = some ⟨g, 0, none⟩ ∧ base ≤ g ∧ g < w.heap.size ∧ Nums w g xs.length := by
  rcases h with h | ⟨g, cur, h1, h2, h3, h4⟩
  · have : (xs.map (Value.int .i64)).length = 0 := by rw [h]; rfl
    simp at this
    subst this
    simp at hp
  · refine ⟨g, h1, h2, blk_lt h3, cur, h3, ?_⟩
    have := congrArg List.length h4
    simp at this
    omega
theorem Nums.at {w : World} {g n : Nat} (h : Nums w g n) (j : Nat) (hj : j < n) : (∃ v, w.cell? ⟨g, j, none⟩ = some v) ∧ w.frozen? ⟨g, j, none⟩ = false := by
  obtain ⟨cur, h1, h2⟩ := h
  exact ⟨⟨cur[j]'(by omega), by rw [blk_cell h1]; exact Array.getElem?_eq_getElem _⟩, blk_frozen h1 _⟩
theorem Nums.set {w : World} {g n : Nat} (h : Nums w g n) (j : Nat) (v : Value) : Nums (w.setCell ⟨g, j, none⟩ v) g n := by
  obtain ⟨cur, h1, h2⟩ := h
  exact ⟨_, blk_set h1 _ _, by simpa using h2⟩

/-- What is turned lies between lo and hi, or is new. -/
structure Between (lo hi : Nat) (w w' : World) : Prop where
  os : w'.os = w.os
  tape : w'.tape = w.tape
  output : w'.output = w.output
  size : w.heap.size ≤ w'.heap.size
  block : ∀ i, i < w.heap.size → i < lo ∨ hi ≤ i → w'.heap[i]? = w.heap[i]?
theorem Between.refl (lo hi : Nat) (w : World) : Between lo hi w w := ⟨rfl, rfl, rfl, Nat.le_refl _, fun _ _ _ => rfl⟩
theorem Between.setCell {lo hi : Nat} {w w' : World} (h : Between lo hi w w') {g o : Nat} (h1 : lo ≤ g) (h2 : g < hi) (u : Value) : Between lo hi w (w'.setCell ⟨g, o, none⟩ u) :=
  ⟨h.os, h.tape, h.output, by simpa [World.setCell] using h.size, fun i hi hs => (Below.heap_setCell _ _ _ _ (fun e => by have e' : i = g := e; omega)).trans (h.block i hi hs)⟩
theorem _root_.Go.Osm.ViewAt.between {tv te ti lo hi : Nat} {w w' : World} {g gs gt : Nat} {V : View} (h : ViewAt tv te ti w g gs gt V) (hb : Between lo hi w w') (h1 : g < lo ∨ hi ≤ g) (h2 : gs < lo ∨ hi ≤ gs) (h3 : gt < lo ∨ hi ≤ gt) : ViewAt tv te ti w' g gs gt V :=
  ⟨(hb.block g (blk_lt h.blk) h1).trans h.blk, (hb.block gs (blk_lt h.bs) h2).trans h.bs, (hb.block gt (blk_lt h.bt) h3).trans h.bt, h.len, h.small⟩
theorem entry3_known {V : View} (g gs gt : Nat) (w : World) (hV : VA w g gs gt V) (hx : V.at 3 = Entry.zero) (hl : 3 < V.tab.length) :
    Calls Try.prog 21 #[.pointer (some ⟨g, 0, none⟩), .int .i64 3] w fun e w' => e = .returned (.agg #[.int .i64 0, .int .i64 0, .int .i64 0, .int .i64 0, .bool false]) ∧ Below w.heap.size w w' := by
  have := view_entry V g gs gt w hV 3
  rw [if_pos (by omega), show (3 : Int).toNat = 3 from rfl, hx] at this
  exact this
theorem eql_zero (W : World) : (binOp .eql 39 (.agg #[.int .i64 0, .int .i64 0, .int .i64 0, .int .i64 0, .bool false]) (.agg #[.int .i64 0, .int .i64 0, .int .i64 0, .int .i64 0, .bool false])).run Try.prog W = .ok (.bool true) W :=
  eql_entry Entry.zero Entry.zero W
/-- A fresh row, and where it must lie. -/
def FreshIn (base lim : Nat) (w : World) (e : TypeId) (A : Option Addr) (l : List Value) : Prop :=
  l = [] ∨ ∃ g cur, A = some ⟨g, 0, none⟩ ∧ base ≤ g ∧ g < lim ∧ w.heap[g]? = some (.cells cur e (0, 0)) ∧ cur.toList.take l.length = l
theorem FreshIn.of {base : Nat} {w : World} {e : TypeId} {A : Option Addr} {l : List Value} (h : Fresh base w e A l) : FreshIn base w.heap.size w e A l := by
  rcases h with h | ⟨g, cur, h1, h2, h3, h4⟩
  · exact .inl h
  · exact .inr ⟨g, cur, h1, h2, blk_lt h3, h3, h4⟩
theorem FreshIn.move {base lim : Nat} {w w' : World} {e : TypeId} {A : Option Addr} {l : List Value} (h : FreshIn base lim w e A l) (hm : ∀ i, base ≤ i → i < lim → i < w.heap.size → w'.heap[i]? = w.heap[i]?) : FreshIn base lim w' e A l := by
  rcases h with h | ⟨g, cur, h1, h2, h3, h4, h5⟩
  · exact .inl h
  · exact .inr ⟨g, cur, h1, h2, h3, (hm g h2 h3 (blk_lt h4)).trans h4, h5⟩
theorem FreshIn.fresh {base lim : Nat} {w : World} {e : TypeId} {A : Option Addr} {l : List Value} (h : FreshIn base lim w e A l) : Fresh base w e A l := by
  rcases h with h | ⟨g, cur, h1, h2, h3, h4, h5⟩
  · exact .inl h
  · exact .inr ⟨g, cur, h1, h2, h4, h5⟩
theorem low {B : Nat} {w w' : World} (h : Below B w w') {g : Nat} {o : Obj} (hb : w.heap[g]? = some o) (hg : g < B) : w'.heap[g]? = some o := (h.block g hg).trans hb
theorem _root_.Go.Osm.ViewAt.low {tv te ti B : Nat} {w w' : World} {g gs gt : Nat} {V : View} (h : ViewAt tv te ti w g gs gt V) (hb : Below B w w') (h1 : g < B) (h2 : gs < B) (h3 : gt < B) : ViewAt tv te ti w' g gs gt V :=
  ⟨Proofs.Ytmonbigaldamfaa.low hb h.blk h1, Proofs.Ytmonbigaldamfaa.low hb h.bs h2, Proofs.Ytmonbigaldamfaa.low hb h.bt h3, h.len, h.small⟩
set_option maxRecDepth 100000 in
set_option maxHeartbeats 8000000 in
theorem apart_any (A : Option Addr) (c : Nat) (l : List Entry) (w : World) (hl : kE.C (fun i => i < w.heap.size) w A l) :
    Calls Try.prog 4 #[.slice A l.length c] w fun e w' => e = .returned (.bool true) ∧ Below w.heap.size w w' := by
  have HL := Lib.hid hl
  clear hl
  have hTl : (tableOf l 5).length ≤ 5 := by simp [tableOf]; omega
  obtain ⟨N0, hN0⟩ : ∃ N, N = View.new 0 5 1 := ⟨_, rfl⟩
  have hNl : N0.tab.length = 5 := by rw [hN0]; rfl
  have HN := Lib.hid hN0
  have HNL := Lib.hid hNl
  clear hN0 hNl
  go_enter Try.func4, Try.ntmps4
  go_wp2_with fail
  refine (view_new 0 5 1 _).mono ?_
  rintro e w1 ⟨gu, gus, gut, rfl, hU, b1, b2, b3, hb1⟩
  rw [← HN.out] at hU
  have l1 := blk_lt hU.blk; have l2 := blk_lt hU.bs; have l3 := blk_lt hU.bt
  go_wp2_with fail
  refine (view_new 0 5 1 _).mono ?_
  rintro e w2 ⟨gv, gvs, gvt, rfl, hV, d1, d2, d3, hb2⟩
  rw [← HN.out] at hV
  have m1 := blk_lt hV.blk; have m2 := blk_lt hV.bs; have m3 := blk_lt hV.bt
  have s0 := hb1.size; have s1 := hb2.size
  replace hU := hU.below hb2
  go_wp2_with fail
  refine (known13_any _).mono ?_
  rintro e w3 ⟨rfl, hb3⟩
  replace hU := hU.below hb3
  replace hV := hV.below hb3
  have s2 := hb3.size
  have hc3 : Chg [] w w3 := Chg.of_below ((hb1.trans (hb2.mono (by omega))).trans (hb3.mono (by omega)))
  go_wp2_with fail
  refine (table_any (fun i => i < w.heap.size) A c l 5 _ (Kd.C_move HL.out fun i h1 h2 => ⟨hc3.block i h2 (by simp), h1⟩) (by decide)).mono ?_
  rintro e w4 ⟨At, ct, rfl, ht1, ht2, ht3, htF, hb4⟩
  replace hU := hU.below hb4
  replace hV := hV.below hb4
  have s3 := hb4.size
  have hc4 := hc3.thenB hb4
  have hb3' := Lib.hid hb3
  clear hb1 hb2 hb3 hc3
  have hCt : kE.C (fun i => w3.heap.size ≤ i) w4 At (tableOf l 5) := Fresh.C htF (fun i h _ => h)
  have HCt := Lib.hid hCt
  have H3 := Lib.hid ht3
  have HTL := Lib.hid hTl
  have HF := Lib.hid (FreshIn.of htF)
  clear hCt ht3 hTl htF
  have HOw : Hid (kE.Own 39 (fun _ => True) (w4.alloc (.cells #[] 39)) w4.heap.size (.slice (some ⟨w4.heap.size, 0, none⟩) 0 0) []) := Lib.hid ⟨[], World.ownsRow_made w4 #[] 0 (Nat.le_refl _) (Nat.zero_le _) (by simp), Reps.nil _ _⟩
  have HCx : Hid (kE.C (fun i => True ∧ some i ≠ (Value.slice (some ⟨w4.heap.size, 0, none⟩) 0 0).ownBlock) (w4.alloc (.cells #[] 39)) At (tableOf l 5)) :=
    Lib.hid (Kd.C_move HCt.out fun i hi hl => ⟨Below.heap_alloc _ _ _ hl, trivial, by intro he; injection he with he; simp at he; omega⟩)
  go_wp2_with (first
    | (at_builtin; refine wpList_app rfl _ _ 34 rfl kE (fun _ => True) w4.heap.size 39 Entry.zero.val 40 Try.underlying34 (by kernel_rfl) rfl (by decide) _ [] rfl HOw.out _ _ (tableOf l 5) rfl H3.out HCx.out (by have := HTL.out; unfold room; simp; omega) (by simp) ?_; intro v5 w5 hown hg _; rw [List.nil_append] at hown)
    | fail)
  have hb5 : Below w4.heap.size w4 w5 := ((Below.refl _ _).alloc (Nat.le_refl _) _).grown hg (by simp) (by rintro k ⟨⟩; exact Nat.le_refl _)
  replace hU := hU.below hb5
  replace hV := hV.below hb5
  have s4 := hb5.size
  have hc5 := hc4.thenB hb5
  obtain ⟨Aw, cw, rfl, hw1, hw2, hw3, hwF⟩ := Own_fresh hown
  have hWc : kE.C (fun i => w4.heap.size ≤ i) w5 Aw (tableOf l 5) := Fresh.C hwF (fun i h _ => h)
  have HW := Lib.hid hWc
  have hCt5 := Kd.C_below HCt.out hb5
  have HF5 := Lib.hid (HF.out.move (w' := w5) fun i _ _ h => hb5.block i h)
  clear hown hg hb4 hb5 hc4 HOw HCx hw1 hw2 hw3 hwF hWc
  refine (view_heard N0 gu gus gut _ hU 1 1 false (fun i => w3.heap.size ≤ i) At ct (tableOf l 5) hCt5 (by have := HTL.out; omega) (by intro i hi; simp; omega)).mono ?_
  rintro e w6 ⟨rfl, hU6, hc6⟩
  obtain ⟨U, hUe⟩ : ∃ U, U = (N0.heard 1 1 false (tableOf l 5)).1 := ⟨_, rfl⟩
  rw [← hUe] at hU6
  have hUl : U.tab.length = 5 := by rw [hUe, (View.heard_len ..).1]; exact HNL.out
  have HUE := Lib.hid hUe
  have HUL := Lib.hid hUl
  clear hUe hUl hCt5 hU
  replace hV := hV.chg hc6 (by simp; omega) (by simp; omega) (by simp; omega)
  have s5 := hc6.size
  have HW6 : Hid (kE.C (fun i => w4.heap.size ≤ i ∧ i < w5.heap.size) w6 Aw (tableOf l 5)) := Lib.hid (Kd.C_move HW.out fun i h1 h2 => ⟨hc6.block i h2 (by simp; omega), h1, h2⟩)
  have HF6 : Hid (FreshIn w3.heap.size w4.heap.size w6 39 At ((tableOf l 5).flatMap Entry.cells)) := Lib.hid (HF5.out.move fun i h1 _ h => hc6.block i h (by simp; omega))
  have hc6' : Chg [] w w6 := hc5.then hc6 (by intro i hi; simp at hi; omega)
  clear HW HF5 hc5 hc6
  go_wp2_with fail
  refine (view_table U gu gus gut _ hU6).mono ?_
  rintro e w7 ⟨Ax, rfl, hxF, hb7⟩
  rw [HUL.out]
  have HX : Hid (∃ g, Ax = some ⟨g, 0, none⟩ ∧ w6.heap.size ≤ g ∧ g < w7.heap.size ∧ Loads w7 g 5) := by
    have := Loads.of_fresh hxF (by rw [HUL.out]; decide)
    rwa [HUL.out] at this
  obtain ⟨gx, rfl, x1, x2, hL⟩ := HX.out
  clear HX hxF
  have y1 := blk_lt hU6.blk; have y2 := blk_lt hU6.bs; have y3 := blk_lt hU6.bt
  have z1 := blk_lt hV.blk; have z2 := blk_lt hV.bs; have z3 := blk_lt hV.bt
  have hU7 := hU6.below hb7
  have hV7 := hV.below hb7
  have s6 := hb7.size
  have HF7 := Lib.hid (HF6.out.move (w' := w7) fun i _ _ h => hb7.block i h)
  have HW7 : Hid (kE.C (fun i => w4.heap.size ≤ i ∧ i < w5.heap.size) w7 Aw (tableOf l 5)) := Lib.hid (Kd.C_below HW6.out hb7)
  have hc7 := hc6'.thenB hb7
  clear hU6 hV HF6 HW6 hc6' hb7
  go_wp2
  go_loopw [37] (fun i wr => ∃ k : Nat, k ≤ 5 ∧ i = .int .i64 k ∧ Loads wr gx 5 ∧ Below w6.heap.size w7 wr) (fun i _ => 5 - (intOf i).toNat)
  case atStart => exact ⟨0, by omega, rfl, hL, Below.refl _ _⟩
  case round =>
    obtain ⟨k, hk, rfl, hLr, hb8⟩ := hrel
    by_cases hlt : k < 5
    · obtain ⟨z, hz1, hz2⟩ := hLr.at k hlt
      go_wp2
      go_roundw
      case rel => exact ⟨k + 1, by omega, by go_num, hLr.set k _, hb8.setCell x1 _⟩
      case measure => simp [intOf]; omega
    · clear hL hLr
      obtain ⟨w8, rfl⟩ : ∃ w8 : World, w8 = wr := ⟨_, rfl⟩
      have s7 := hb8.size
      have hU8 := hU7.low hb8 y1 y2 y3
      have hV8 := hV7.low hb8 z1 z2 z3
      have HF8 := Lib.hid (HF7.out.move (w' := w8) fun i _ h _ => hb8.block i (by omega))
      have HW8 : Hid (kE.C (fun i => w4.heap.size ≤ i ∧ i < w5.heap.size) w8 Aw (tableOf l 5)) := Lib.hid (Kd.C_move HW7.out fun i h1 _ => ⟨hb8.block i (by omega), h1⟩)
      have hc8 : Chg [] w w8 := ⟨hb8.os.trans hc7.os, hb8.tape.trans hc7.tape, hb8.output.trans hc7.output, by omega, fun i h1 h2 => (hb8.block i (by omega)).trans (hc7.block i h1 h2)⟩
      clear hU7 hV7 HF7 HW7 hc7 hb8
      go_wp2_with fail
      refine (view_here U gu gus gut _ hU8).mono ?_
      rintro e w9 ⟨Ah, rfl, hhF, hb9⟩
      have hU9 := hU8.below hb9
      have hV9 := hV8.below hb9
      have s8 := hb9.size
      have HF9 := Lib.hid (HF8.out.move (w' := w9) fun i _ _ h => hb9.block i h)
      have HW9 := Lib.hid (Kd.C_below HW8.out hb9)
      have hc9 := hc8.thenB hb9
      have u1 := blk_lt hU8.blk; have u2 := blk_lt hU8.bs; have u3 := blk_lt hU8.bt
      have v1 := blk_lt hV8.blk; have v2 := blk_lt hV8.bs; have v3 := blk_lt hV8.bt
      obtain ⟨nh, hnh⟩ : ∃ nh, nh = U.here.length := ⟨_, rfl⟩
      rw [← hnh]
      have hN : nh = 0 ∨ ∃ gh, Ah = some ⟨gh, 0, none⟩ ∧ w8.heap.size ≤ gh ∧ Nums w9 gh nh := by
        rcases Nat.eq_zero_or_pos nh with h | h
        · exact .inl h
        · obtain ⟨gh, h1, h2, _, h3⟩ := Nums.of_fresh hhF (by omega)
          exact .inr ⟨gh, h1, h2, by rw [hnh]; exact h3⟩
      have hn5 : nh ≤ 5 := by rw [hnh, ← HUL.out]; exact View.hereTo_len U _
      have HN9 := Lib.hid hN
      clear hU8 hV8 HF8 HW8 hc8 hhF hb9 hnh hN
      go_wp2
      go_loopw [49] (fun i wr => ∃ k : Nat, k ≤ nh ∧ i = .int .i64 k ∧ Hid (nh = 0 ∨ ∃ gh, Ah = some ⟨gh, 0, none⟩ ∧ w8.heap.size ≤ gh ∧ Nums wr gh nh) ∧ Below w8.heap.size w9 wr) (fun i _ => nh - (intOf i).toNat)
      case atStart => exact ⟨0, by omega, rfl, HN9, Below.refl _ _⟩
      case round =>
        obtain ⟨k2, hk2, rfl, HNr, hb10⟩ := hrel
        by_cases hlt2 : k2 < nh
        · obtain ⟨gh, rfl, hg1, hg2⟩ : ∃ gh, Ah = some ⟨gh, 0, none⟩ ∧ w8.heap.size ≤ gh ∧ Nums wr gh nh := by
            rcases HNr.out with h | h
            · omega
            · exact h
          obtain ⟨⟨z, hz1⟩, hz2⟩ := hg2.at k2 hlt2
          go_wp2
          go_roundw
          case rel => exact ⟨k2 + 1, by omega, by go_num, Lib.hid (.inr ⟨gh, rfl, hg1, hg2.set k2 _⟩), hb10.setCell hg1 _⟩
          case measure => simp [intOf]; omega
        · obtain ⟨w10, rfl⟩ : ∃ w10 : World, w10 = wr := ⟨_, rfl⟩
          have s9 := hb10.size
          have hU10 := hU9.low hb10 u1 u2 u3
          have hV10 := hV9.low hb10 v1 v2 v3
          have HF10 := Lib.hid (HF9.out.move (w' := w10) fun i _ h _ => hb10.block i (by omega))
          have HW10 : Hid (kE.C (fun i => w4.heap.size ≤ i ∧ i < w5.heap.size) w10 Aw (tableOf l 5)) := Lib.hid (Kd.C_move HW9.out fun i h1 _ => ⟨hb10.block i (by omega), h1⟩)
          have hc10 : Chg [] w w10 := ⟨hb10.os.trans hc9.os, hb10.tape.trans hc9.tape, hb10.output.trans hc9.output, by omega, fun i h1 h2 => (hb10.block i (by omega)).trans (hc9.block i h1 h2)⟩
          clear hU9 hV9 HF9 HW9 hc9 HN9 HNr hb10
          obtain ⟨nt, hnt⟩ : ∃ nt, nt = (tableOf l 5).length := ⟨_, rfl⟩
          have hT3 : nt = 0 ∨ ∃ g, At = some ⟨g, 0, none⟩ ∧ w3.heap.size ≤ g ∧ g < w4.heap.size ∧ Loads w10 g nt := by
            rcases Nat.eq_zero_or_pos nt with h | h
            · exact .inl h
            · rcases HF10.out with hh | ⟨g, cur, h1, h2, h3, h4, h5⟩
              · have := flat_len Entry.cells 5 Entry.cells_len (tableOf l 5)
                rw [hh] at this
                simp only [List.length_nil] at this
                omega
              · obtain ⟨g', h1', _, _, h6⟩ := Loads.of_fresh (HF10.out.fresh) (by omega)
                rw [h1] at h1'
                injection h1' with h1'
                injection h1' with h1' _ _
                subst h1'
                exact .inr ⟨g, h1, h2, h3, by rw [hnt]; exact h6⟩
          have HT3 := Lib.hid hT3
          rw [← hnt]
          have u4 := blk_lt hU10.blk; have u5 := blk_lt hU10.bs; have u6 := blk_lt hU10.bt
          have hnt5 : nt ≤ 5 := by have := HTL.out; omega
          have HNT := Lib.hid hnt
          clear hT3 hnt
          go_wp2
          go_loopw [58] (fun i wr => ∃ k : Nat, k ≤ nt ∧ i = .int .i64 k ∧ Hid (nt = 0 ∨ ∃ g, At = some ⟨g, 0, none⟩ ∧ w3.heap.size ≤ g ∧ g < w4.heap.size ∧ Loads wr g nt) ∧ Between w3.heap.size w4.heap.size w10 wr) (fun i _ => nt - (intOf i).toNat)
          case atStart => exact ⟨0, by omega, rfl, HT3, Between.refl _ _ _⟩
          case round =>
            obtain ⟨k3, hk3, rfl, HTr, hb11⟩ := hrel
            by_cases hlt3 : k3 < nt
            · obtain ⟨g, rfl, hg1, hg2, hg3⟩ : ∃ g, At = some ⟨g, 0, none⟩ ∧ w3.heap.size ≤ g ∧ g < w4.heap.size ∧ Loads wr g nt := by
                rcases HTr.out with h | h
                · omega
                · exact h
              obtain ⟨z, hz1, hz2⟩ := hg3.at k3 hlt3
              go_wp2
              go_roundw
              case rel => exact ⟨k3 + 1, by omega, by go_num, Lib.hid (.inr ⟨g, rfl, hg1, hg2, hg3.set k3 _⟩), hb11.setCell hg1 hg2 _⟩
              case measure => simp [intOf]; omega
            · obtain ⟨w11, rfl⟩ : ∃ w11 : World, w11 = wr := ⟨_, rfl⟩
              have s10 := hb11.size
              have hU11 := hU10.between hb11 (.inl (by omega)) (.inl (by omega)) (.inl (by omega))
              have hV11 := hV10.between hb11 (.inl (by omega)) (.inl (by omega)) (.inl (by omega))
              have HW11 : Hid (kE.C (fun i => w4.heap.size ≤ i ∧ i < w5.heap.size) w11 Aw (tableOf l 5)) := Lib.hid (Kd.C_move HW10.out fun i h1 h2 => ⟨hb11.block i h2 (.inr h1.1), h1⟩)
              have hc11 : Chg [] w w11 := ⟨hb11.os.trans hc10.os, hb11.tape.trans hc10.tape, hb11.output.trans hc10.output, by omega, fun i h1 h2 => (hb11.block i (by omega) (.inl (by omega))).trans (hc10.block i h1 h2)⟩
              clear hU10 hV10 HF10 HW10 hc10 HT3 HTr hb11
              go_wp2_with fail
              refine (view_new 0 5 1 _).mono ?_
              rintro e w12 ⟨gw, gws, gwt, rfl, hW, f1, f2, f3, hb12⟩
              rw [← HN.out] at hW
              have o1 := blk_lt hW.blk; have o2 := blk_lt hW.bs; have o3 := blk_lt hW.bt
              have s11 := hb12.size
              have hU12 := hU11.below hb12
              have hV12 := hV11.below hb12
              have HW12 := Kd.C_below HW11.out hb12
              have hc12 := hc11.thenB hb12
              clear hU11 hV11 HW11 hc11 hb12
              rw [HNT.out]
              go_wp2_with fail
              refine (view_heard N0 gw gws gwt _ hW 1 1 false (fun i => w4.heap.size ≤ i ∧ i < w5.heap.size) Aw cw (tableOf l 5) HW12 (by have := HTL.out; omega) (by intro i hi; simp; omega)).mono ?_
              rintro e w13 ⟨rfl, hW13, hc13⟩
              rw [← HUE.out] at hW13
              have hU13 := hU12.chg hc13 (by simp; omega) (by simp; omega) (by simp; omega)
              have hV13 := hV12.chg hc13 (by simp; omega) (by simp; omega) (by simp; omega)
              have s12 := hc13.size
              have hc13' := hc12.then hc13 (by intro i hi; simp at hi; omega)
              clear hU12 hV12 HW12 hc12 hc13 hW
              go_wp2_with fail
              refine (view_table U gu gus gut _ hU13).mono ?_
              rintro e w14 ⟨A1, rfl, hF1, hb14⟩
              have hW14 := hW13.below hb14
              have hV14 := hV13.below hb14
              have hc14 := hc13'.thenB hb14
              clear hU13 hV13 hW13 hc13'
              go_wp2_with fail
              refine (view_table U gw gws gwt _ hW14).mono ?_
              rintro e w15 ⟨A2, rfl, hF2, hb15⟩
              have hV15 := hV14.below hb15
              have hc15 := hc14.thenB hb15
              have HF1 := Lib.hid (hF1.below hb15)
              have HF2 := Lib.hid hF2
              have hUs : U.tab.length ≤ maxLen := by have := HUL.out; unfold maxLen; omega
              have HUS := Lib.hid hUs
              clear hV14 hW14 hc14 hF1 hF2 hb14 hb15 hUs
              go_wp2_with fail
              refine (same13_any (fun _ => True) (fun _ => True) A1 A2 _ _ U.tab U.tab _ (Fresh.C HF1.out (fun _ _ _ => trivial)) (Fresh.C HF2.out (fun _ _ _ => trivial)) HUS.out HUS.out).mono ?_
              rintro e w16 ⟨rfl, hb16⟩
              have hV16 := hV15.below hb16
              have hc16 := hc15.thenB hb16
              clear hV15 hc15 hb16
              have e1 : decide (U.tab = U.tab) = true := by simp
              rw [e1]
              have K1 : Hid (N0.here.length = 5) := Lib.hid (by rw [HN.out]; kernel_rfl)
              have K2 : Hid (N0.at 3 = Entry.zero) := Lib.hid (by rw [HN.out]; kernel_rfl)
              have heq := eql_zero
              go_wp2_with (first
                | (go_at_call 20; refine (here_known gv gvs gvt _ hV16 K1.out).mono ?_; rintro e w17 ⟨A3, rfl, hb17⟩; have hV17 := hV16.below hb17; have hc17 := hc16.thenB hb17)
                | (go_at_call 21; refine (entry3_known gv gvs gvt _ hV17 K2.out (by rw [HNL.out]; decide)).mono ?_; rintro e w18 ⟨rfl, hb18⟩; have hc18 := hc17.thenB hb18))
              go_ret
              exact ⟨rfl, hc18.below⟩
end Go.Proofs.Ytmonbigaldamfaa
