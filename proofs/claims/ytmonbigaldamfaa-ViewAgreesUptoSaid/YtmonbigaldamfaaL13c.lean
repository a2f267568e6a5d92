/- The walk of ViewAgrees. -/
import Derived.Test.YtmonbigaldamfaaL13b
import Derived.Test.YtmonbigaldamfaaP13
namespace Go.Osm
open Go.RowKit
structure Raw13 where
  what : Int
  src : Int
  load : Int
  ack : Bool
  drain : Bool
  tab : List Entry
def kR13 : Kd Raw13 where
  sz := 6
  K := fun I w x cs => ∃ v, cs = [.int .i64 x.what, .int .i64 x.src, .int .i64 x.load, .bool x.ack, .bool x.drain, v] ∧ kE.S I w v x.tab
  len := by rintro I w x cs ⟨v, rfl, _⟩; rfl
  one := by
    rintro I w x cs ⟨v, rfl, A, c, rfl, _⟩ u hu
    simp at hu
    rcases hu with rfl | rfl | rfl | rfl | rfl | rfl <;> rfl
  pos := by decide
  move := by rintro I I' w w' x cs ⟨v, rfl, h⟩ hm; exact ⟨v, rfl, Kd.S_move h hm⟩
theorem raw13_at {I : Nat → Prop} {w : World} {A : Option Addr} {xs : List Raw13} (h : kR13.C I w A xs) (i : Nat) (hi : i < xs.length) : ∃ b f A' c, A = some ⟨b, f, none⟩ ∧ b < w.heap.size ∧
    w.cell? ⟨b, f + i * 6, none⟩ = some (.int .i64 xs[i].what) ∧ w.cell? ⟨b, f + i * 6 + 1, none⟩ = some (.int .i64 xs[i].src) ∧ w.cell? ⟨b, f + i * 6 + 2, none⟩ = some (.int .i64 xs[i].load) ∧
    w.cell? ⟨b, f + i * 6 + 3, none⟩ = some (.bool xs[i].ack) ∧ w.cell? ⟨b, f + i * 6 + 4, none⟩ = some (.bool xs[i].drain) ∧ w.cell? ⟨b, f + i * 6 + 5, none⟩ = some (.slice A' xs[i].tab.length c) ∧
    xs[i].tab.length ≤ c ∧ c ≤ maxLen ∧ (A' = none → c = 0) ∧ kE.C I w A' xs[i].tab := by
  obtain ⟨b, f, cs, rfl, _, hl, hk, hc⟩ := Kd.C_get h i hi
  obtain ⟨v, rfl, A', c, rfl, h1, h2, h3, h4⟩ := hk
  have g := fun j u h => by have := hc j u h; rw [← Nat.add_assoc] at this; exact this
  exact ⟨b, f, A', c, rfl, hl, g 0 _ rfl, g 1 _ rfl, g 2 _ rfl, g 3 _ rfl, g 4 _ rfl, g 5 _ rfl, h1, h2, h3, h4⟩
theorem Kd.C_ad {α : Type} {d : Kd α} {I : Nat → Prop} {w : World} {A : Option Addr} {xs : List α} (h : d.C I w A xs) (o : Obj) : d.C (fun i => i < w.heap.size) (w.alloc o).drew A xs :=
  Kd.C_move h fun _ _ h2 => ⟨Below.heap_alloc _ _ _ h2, h2⟩
theorem cell_chg {S : List Nat} {w w1 : World} (h : Chg S w w1) {a : Addr} {v : Value} (hc : w.cell? a = some v) (hn : a.block ∉ S) : w1.cell? a = some v :=
  (World.cell?_of_block (h.block _ (World.block_lt_of_cell? w a hc) hn)).trans hc
def rounds13 : Nat → View × View → View × View
  | 0, p => p
  | k + 1, p => round13 (rounds13 k p)
end Go.Osm
namespace Go.Proofs.Ytmonbigaldamfaa
open Go.RowKit Go.Osm
set_option maxRecDepth 100000 in
set_option maxHeartbeats 4000000 in
theorem agrees_any (A B : Option Addr) (ca cb : Nat) (la lb : List Raw13) (w : World) (hA : kR13.C (fun i => i < w.heap.size) w A la) (hB : kR13.C (fun i => i < w.heap.size) w B lb) (ha : la.length ≤ 1048576) (hb : lb.length ≤ 1048576) :
    Calls Try.prog 3 #[.slice A la.length ca, .slice B lb.length cb] w fun e w' => e = .returned (.bool true) ∧ Below w.heap.size w w' := by
  have HA := Lib.hid hA
  have HB := Lib.hid hB
  have LA := Lib.hid ha
  have LB := Lib.hid hb
  clear hA hB ha hb
  go_enter Try.func3, Try.ntmps3
  go_wp2_with fail
  refine (view_new 0 4 1 _).mono ?_
  rintro e w1 ⟨gu, gus, gut, rfl, hU, b1, b2, b3, hb1⟩
  have l1 := blk_lt hU.blk; have l2 := blk_lt hU.bs; have l3 := blk_lt hU.bt
  go_wp2_with fail
  refine (view_new 1 4 1 _).mono ?_
  rintro e w2 ⟨gv, gvs, gvt, rfl, hV, d1, d2, d3, hb2⟩
  have m1 := blk_lt hV.blk; have m2 := blk_lt hV.bs; have m3 := blk_lt hV.bt
  have s0 := hb1.size; have s1 := hb2.size
  replace hU := hU.below hb2
  go_wp2_with fail
  refine (known13_any _).mono ?_
  rintro e w3 ⟨rfl, hb3⟩
  replace hU := hU.below hb3
  replace hV := hV.below hb3
  have s2 := hb3.size
  have hc3 : Chg [] w w3 := Chg.of_below ((hb1.trans (hb2.mono (by omega))).trans (hb3.mono (by omega)))
  have HIU := Lib.hid (Inv.new 0 (by decide))
  have HIV := Lib.hid (Inv.new 1 (by decide))
  clear hb1 hb2 hb3
  go_wp2
  go_loopw [30] (fun i wr => ∃ (k : Nat) (U V : View) (n m : Nat), k ≤ 2 ∧ i = .int .i64 k ∧ VA wr gu gus gut U ∧ VA wr gv gvs gvt V ∧ Inv U 0 n ∧ Inv V 1 m ∧ n ≤ 1048576 ∧ m ≤ 1048576 ∧ (k ≤ 1 → m = 0) ∧ (k = 0 → n = 0) ∧ Chg [] w wr) (fun i _ => 2 - (intOf i).toNat)
  case atStart => exact ⟨0, _, _, 0, 0, by omega, rfl, hU, hV, HIU.out, HIV.out, by omega, by omega, fun _ => rfl, fun _ => rfl, hc3⟩
  case round =>
    obtain ⟨k, U, V, n, m, hk, rfl, hU2, hV2, hIU, hIV, hn, hm, hm0, hn0, hc2⟩ := hrel
    obtain ⟨wz, rfl⟩ : ∃ wz : World, wz = wr := ⟨_, rfl⟩
    have l1 := blk_lt hU2.blk; have l2 := blk_lt hU2.bs; have l3 := blk_lt hU2.bt
    have m1 := blk_lt hV2.blk; have m2 := blk_lt hV2.bs; have m3 := blk_lt hV2.bt
    have sz := hc2.size
    have HA2 : Hid (kR13.C (fun i => i < w.heap.size) wz A la) := Lib.hid (Kd.C_move HA.out fun i h1 h2 => ⟨hc2.block i h2 (by simp), h1⟩)
    have HB2 : Hid (kR13.C (fun i => i < w.heap.size) wz B lb) := Lib.hid (Kd.C_move HB.out fun i h1 h2 => ⟨hc2.block i h2 (by simp), h1⟩)
    have HIU := Lib.hid hIU
    have HIV := Lib.hid hIV
    have HC2 := Lib.hid hc2
    have HNM := Lib.hid (And.intro hn hm)
    clear hU hV hc3 hIU hIV hc2 hn hm
    have hk3 : k = 0 ∨ k = 1 ∨ k = 2 := by omega
    rcases hk3 with rfl | rfl | rfl
    · have hn00 : n = 0 := hn0 rfl
      subst hn00
      have ix : ∀ W : World, (Instr.index 26 (.agg #[.slice A la.length ca, .slice B lb.length cb]) (.int .i64 0)).run Try.prog W = .ok (.slice A la.length ca) W := fun _ => by kernel_rfl
      go_wp2
      go_loopw [10, 40] (fun nw i wr => ∃ (k : Nat) (n : Int) (W : View), k ≤ la.length ∧ nw = .int .i64 n ∧ i = .int .i64 k ∧ VA wr gu gus gut W ∧ Inv W 0 k ∧ Chg [gu, gus, gut] wz wr) (fun _ i _ => la.length - (intOf i).toNat)
      case atStart => exact ⟨0, 0, _, Nat.zero_le _, rfl, rfl, hU2, HIU.out, Chg.refl _ _⟩
      case round =>
        obtain ⟨k, tn, W, hk, rfl, rfl, hW, hI, hc⟩ := hrel
        by_cases hlt : k < la.length
        · have hA' := Kd.C_move HA2.out fun i hi hl => ⟨hc.block i hl (by simp; omega), hi⟩
          obtain ⟨b, f, A1, c1, rfl, hbl, x0, x1, x2, x3, x4, x5, h1, h2, h3, hE⟩ := raw13_at hA' k hlt
          obtain ⟨x, hx⟩ : ∃ x, x = la[k] := ⟨_, rfl⟩
          rw [← hx] at x0 x1 x2 x3 x4 x5 h1 hE
          have HE := Lib.hid hE
          have HI := Lib.hid hI
          have HW := Lib.hid hW
          have HCC := Lib.hid hc
          have HL := Lib.hid (And.intro h1 (And.intro h2 h3))
          have l1 := blk_lt hW.blk; have l2 := blk_lt hW.bs; have l3 := blk_lt hW.bt
          have HKL := Lib.hid (Nat.lt_of_lt_of_le hlt LA.out)
          clear hA' hx hE hI hc h1 h2 h3 hW
          go_wp2_with (first | (go_at_call 14; refine (pick_any _ _ _ (by omega) (by omega)).mono ?_; rintro e w' ⟨rfl, rfl⟩) | fail)
          · refine region_tail 7 (by kernel_rfl) (by kernel_rfl) ?_
            (simp only [List.take_succ_cons, List.take_zero, List.drop_succ_cons, List.drop_zero])
            iterate 4 still_step
            still_call (pick_any _ _ _ (by omega) (by omega))
            repeat still_step
            refine wpStill_nil ?_
            go_wp2_with (go_at_call 15; refine (view_tick W gu gus gut _ ((HW.out.alloc _).drew) HI.out.ok _ _ _).mono ?_; rintro e w3 ⟨rfl, hW3, hc3⟩)
            go_roundw
            case rel => exact ⟨k + 1, _, _, hlt, rfl, by rw [Osm.wrap_small (x := (k : Int)) (by omega) (by have := HKL.out; omega)]; rfl, hW3, HI.out.tick _ _ _ (by have := HKL.out; omega), (HCC.out.alloc _).drew.then hc3 (by intro i hi; exact .inl hi)⟩
            case measure => rw [Osm.wrap_small (x := (k : Int)) (by omega) (by have := HKL.out; omega)]; simp [intOf]; omega
          · go_region_held3 (fun w' => w'.cell? ⟨wr.heap.size, 1, none⟩ = some (.int .i64 x.src) ∧ w'.cell? ⟨wr.heap.size, 3, none⟩ = some (.bool x.ack) ∧ w'.cell? ⟨wr.heap.size, 5, none⟩ = some (.slice A1 x.tab.length c1))
              (first | go_keep | exact ⟨cell_below hb3 (by simp), cell_below hb3 (by simp), cell_below hb3 (by simp)⟩ | exact ⟨cell_chg hc4 (cell_below hb3 (by simp)) (by simp; omega), cell_chg hc4 (cell_below hb3 (by simp)) (by simp; omega), cell_chg hc4 (cell_below hb3 (by simp)) (by simp; omega)⟩)
              ((first
                | (go_at_call 14; refine (pick_any _ _ _ (by omega) (by omega)).mono ?_; rintro e w' ⟨rfl, rfl⟩)
                | (go_at_call 17; refine (table_any (fun i => i < wr.heap.size) A1 c1 x.tab 4 _ (Kd.C_ad HE.out _) (by decide)).mono ?_; rintro e w3 ⟨At, ct, rfl, ht1, ht2, ht3, htF, hb3⟩; have hW3 := ((HW.out.alloc _).drew).below hb3; have hc3 := (HCC.out.alloc _).drew.thenB hb3)
                | (go_at_call 16; refine (view_heard W gu gus gut _ hW3 _ _ _ (fun i => wr.heap.size < i) At ct (tableOf x.tab 4) (Fresh.C htF (fun i h _ => by simp at h; omega)) (by simp [tableOf]; omega) (by intro i hi; simp; omega)).mono ?_; rintro e w4 ⟨rfl, hW4, hc4⟩)))
            go_wp2
            go_roundw
            case rel => exact ⟨k + 1, _, _, hlt, rfl, by rw [Osm.wrap_small (x := (k : Int)) (by omega) (by have := HKL.out; omega)]; rfl, hW4, (HI.out.heard _ _ _ _).mono (by omega), hc3.then hc4 (by intro i hi; exact .inl hi)⟩
            case measure => rw [Osm.wrap_small (x := (k : Int)) (by omega) (by have := HKL.out; omega)]; simp [intOf]; omega
        · obtain rfl : k = la.length := by omega
          have HW := Lib.hid hW
          have HI := Lib.hid hI
          have HCC := Lib.hid hc
          clear hW hI hc
          go_wp2
          go_roundw

          case rel => exact ⟨1, _, V, la.length, m, by omega, by go_num, HW.out, hV2.chg HCC.out (by simp; omega) (by simp; omega) (by simp; omega), HI.out, HIV.out, LA.out, HNM.out.2, fun _ => hm0 (by omega), fun h => by omega, HC2.out.then HCC.out (by intro i hi; simp at hi; omega)⟩
          case measure => simp [intOf]
    · have hm00 : m = 0 := hm0 (by omega)
      subst hm00
      have ix : ∀ W : World, (Instr.index 26 (.agg #[.slice A la.length ca, .slice B lb.length cb]) (.int .i64 1)).run Try.prog W = .ok (.slice B lb.length cb) W := fun _ => by kernel_rfl
      go_wp2
      go_loopw [10, 40] (fun nw i wr => ∃ (k : Nat) (n : Int) (W : View), k ≤ lb.length ∧ nw = .int .i64 n ∧ i = .int .i64 k ∧ VA wr gv gvs gvt W ∧ Inv W 1 k ∧ Chg [gv, gvs, gvt] wz wr) (fun _ i _ => lb.length - (intOf i).toNat)
      case atStart => exact ⟨0, 0, _, Nat.zero_le _, rfl, rfl, hV2, HIV.out, Chg.refl _ _⟩
      case round =>
        obtain ⟨k, tn, W, hk, rfl, rfl, hW, hI, hc⟩ := hrel
        by_cases hlt : k < lb.length
        · have hA' := Kd.C_move HB2.out fun i hi hl => ⟨hc.block i hl (by simp; omega), hi⟩
          obtain ⟨b, f, A1, c1, rfl, hbl, x0, x1, x2, x3, x4, x5, h1, h2, h3, hE⟩ := raw13_at hA' k hlt
          obtain ⟨x, hx⟩ : ∃ x, x = lb[k] := ⟨_, rfl⟩
          rw [← hx] at x0 x1 x2 x3 x4 x5 h1 hE
          have HE := Lib.hid hE
          have HI := Lib.hid hI
          have HW := Lib.hid hW
          have HCC := Lib.hid hc
          have HL := Lib.hid (And.intro h1 (And.intro h2 h3))
          have l1 := blk_lt hW.blk; have l2 := blk_lt hW.bs; have l3 := blk_lt hW.bt
          have HKL := Lib.hid (Nat.lt_of_lt_of_le hlt LB.out)
          clear hA' hx hE hI hc h1 h2 h3 hW
          go_wp2_with (first | (go_at_call 14; refine (pick_any _ _ _ (by omega) (by omega)).mono ?_; rintro e w' ⟨rfl, rfl⟩) | fail)
          · refine region_tail 7 (by kernel_rfl) (by kernel_rfl) ?_
            (simp only [List.take_succ_cons, List.take_zero, List.drop_succ_cons, List.drop_zero])
            iterate 4 still_step
            still_call (pick_any _ _ _ (by omega) (by omega))
            repeat still_step
            refine wpStill_nil ?_
            go_wp2_with (go_at_call 15; refine (view_tick W gv gvs gvt _ ((HW.out.alloc _).drew) HI.out.ok _ _ _).mono ?_; rintro e w3 ⟨rfl, hW3, hc3⟩)
            go_roundw
            case rel => exact ⟨k + 1, _, _, hlt, rfl, by rw [Osm.wrap_small (x := (k : Int)) (by omega) (by have := HKL.out; omega)]; rfl, hW3, HI.out.tick _ _ _ (by have := HKL.out; omega), (HCC.out.alloc _).drew.then hc3 (by intro i hi; exact .inl hi)⟩
            case measure => rw [Osm.wrap_small (x := (k : Int)) (by omega) (by have := HKL.out; omega)]; simp [intOf]; omega
          · go_region_held3 (fun w' => w'.cell? ⟨wr.heap.size, 1, none⟩ = some (.int .i64 x.src) ∧ w'.cell? ⟨wr.heap.size, 3, none⟩ = some (.bool x.ack) ∧ w'.cell? ⟨wr.heap.size, 5, none⟩ = some (.slice A1 x.tab.length c1))
              (first | go_keep | exact ⟨cell_below hb3 (by simp), cell_below hb3 (by simp), cell_below hb3 (by simp)⟩ | exact ⟨cell_chg hc4 (cell_below hb3 (by simp)) (by simp; omega), cell_chg hc4 (cell_below hb3 (by simp)) (by simp; omega), cell_chg hc4 (cell_below hb3 (by simp)) (by simp; omega)⟩)
              ((first
                | (go_at_call 14; refine (pick_any _ _ _ (by omega) (by omega)).mono ?_; rintro e w' ⟨rfl, rfl⟩)
                | (go_at_call 17; refine (table_any (fun i => i < wr.heap.size) A1 c1 x.tab 4 _ (Kd.C_ad HE.out _) (by decide)).mono ?_; rintro e w3 ⟨At, ct, rfl, ht1, ht2, ht3, htF, hb3⟩; have hW3 := ((HW.out.alloc _).drew).below hb3; have hc3 := (HCC.out.alloc _).drew.thenB hb3)
                | (go_at_call 16; refine (view_heard W gv gvs gvt _ hW3 _ _ _ (fun i => wr.heap.size < i) At ct (tableOf x.tab 4) (Fresh.C htF (fun i h _ => by simp at h; omega)) (by simp [tableOf]; omega) (by intro i hi; simp; omega)).mono ?_; rintro e w4 ⟨rfl, hW4, hc4⟩)))
            go_wp2
            go_roundw
            case rel => exact ⟨k + 1, _, _, hlt, rfl, by rw [Osm.wrap_small (x := (k : Int)) (by omega) (by have := HKL.out; omega)]; rfl, hW4, (HI.out.heard _ _ _ _).mono (by omega), hc3.then hc4 (by intro i hi; exact .inl hi)⟩
            case measure => rw [Osm.wrap_small (x := (k : Int)) (by omega) (by have := HKL.out; omega)]; simp [intOf]; omega
        · obtain rfl : k = lb.length := by omega
          have HW := Lib.hid hW
          have HI := Lib.hid hI
          have HCC := Lib.hid hc
          clear hW hI hc
          go_wp2
          go_roundw

          case rel => exact ⟨2, U, _, n, lb.length, by omega, by go_num, hU2.chg HCC.out (by simp; omega) (by simp; omega) (by simp; omega), HW.out, HIU.out, HI.out, HNM.out.1, LB.out, fun h => by omega, fun h => by omega, HC2.out.then HCC.out (by intro i hi; simp at hi; omega)⟩
          case measure => simp [intOf]
    · obtain ⟨P0, hP0⟩ : ∃ P : View × View, P = (U, V) := ⟨_, rfl⟩
      have hfin := rounds_agree HIU.out HIV.out (by have := HNM.out; omega) (by have := HNM.out; omega)
      rw [← hP0] at hfin
      have HF := Lib.hid hfin
      have hUP : VA wz gu gus gut P0.1 := by rw [hP0]; exact hU2
      have hVP : VA wz gv gvs gvt P0.2 := by rw [hP0]; exact hV2
      have hT0 : Two P0 := by rw [hP0]; exact ⟨HIU.out.len, HIV.out.len, HIU.out.mine, HIV.out.mine⟩
      have HT0 := Lib.hid hT0
      clear hfin hT0 hP0 hU2 hV2 HA2 HB2 HIU HIV hn0 hm0
      go_wp2
      go_loopw [13] (fun i wr => ∃ (k : Nat) (P : View × View), k ≤ 3 ∧ i = .int .i64 k ∧ Hid (P = rounds13 k P0) ∧ Hid (Two P) ∧ VA wr gu gus gut P.1 ∧ VA wr gv gvs gvt P.2 ∧ Chg [] w wr) (fun i _ => 3 - (intOf i).toNat)
      case atStart => exact ⟨0, P0, by omega, rfl, Lib.hid rfl, HT0, hUP, hVP, HC2.out⟩
      case round =>
        obtain ⟨k, P, hk, rfl, HP, HT, hU, hV, hc⟩ := hrel
        clear hUP hVP HC2
        have u1 := blk_lt hU.blk; have u2 := blk_lt hU.bs; have u3 := blk_lt hU.bt
        have v1 := blk_lt hV.blk; have v2 := blk_lt hV.bs; have v3 := blk_lt hV.bt
        have sr := hc.size
        have HCC := Lib.hid hc
        have HV := Lib.hid hV
        have HU := Lib.hid hU
        clear hc hU hV
        by_cases hlt : k < 3
        · go_wp2_with fail
          refine (view_table P.1 gu gus gut _ HU.out).mono ?_
          rintro e w4 ⟨A1, rfl, hF1, hb4⟩
          have s4 := hb4.size
          have hU4 := HU.out.below hb4
          have hV4 := HV.out.below hb4
          have hc4 := HCC.out.thenB hb4
          go_wp2_with fail
          refine (view_heard P.2 gv gvs gvt _ hV4 50 0 false (fun i => wr.heap.size ≤ i) A1 _ P.1.tab (Fresh.C hF1 (fun i h _ => h)) (by rw [HT.out.lu]; decide) (by intro i hi; simp; omega)).mono ?_
          rintro e w5 ⟨rfl, hV5, hc5⟩
          have hV5' : VA w5 gv gvs gvt (tellV P.1 P.2) := hV5
          have s5 := hc5.size
          have hU5 := hU4.chg hc5 (by simp; omega) (by simp; omega) (by simp; omega)
          have hc5' := hc4.then hc5 (by intro i hi; simp at hi; omega)
          clear hV5
          go_wp2_with fail
          refine (view_table (tellV P.1 P.2) gv gvs gvt _ hV5').mono ?_
          rintro e w6 ⟨A2, rfl, hF2, hb6⟩
          have s6 := hb6.size
          have hU6 := hU5.below hb6
          have hV6 := hV5'.below hb6
          have hc6 := hc5'.thenB hb6
          go_wp2_with fail
          refine (view_heard P.1 gu gus gut _ hU6 50 1 true (fun i => w5.heap.size ≤ i) A2 _ (tellV P.1 P.2).tab (Fresh.C hF2 (fun i h _ => h)) (by have := HT.out.round.lv; simp only [round13] at this; omega) (by intro i hi; simp; omega)).mono ?_
          rintro e w7 ⟨rfl, hU7, hc7⟩
          have hU7' : VA w7 gu gus gut (round13 P).1 := hU7
          have hV7 : VA w7 gv gvs gvt (round13 P).2 := hV6.chg hc7 (by simp; omega) (by simp; omega) (by simp; omega)
          have hc7' := hc6.then hc7 (by intro i hi; simp at hi; omega)
          go_wp2
          go_roundw
          case rel =>
            exact ⟨_, _, _, _, _, _, _, _, _, _, _, _, _, ⟨k + 1, round13 P, by omega, by go_num, Lib.hid (by rw [HP.out]; rfl), Lib.hid HT.out.round, hU7', hV7, hc7'⟩, rfl⟩
          case measure => simp [intOf]; omega
        · obtain rfl : k = 3 := by omega
          have HQ : Hid (P.1.tab = P.2.tab ∧ P.1.tab.length = 4 ∧ (P.1.at 0).status = 0 ∧ (P.1.at 1).status = 0) := Lib.hid (by rw [HP.out]; exact HF.out)
          go_wp2_with fail
          refine (view_table P.1 gu gus gut _ HU.out).mono ?_
          rintro e w4 ⟨A1, rfl, hF1, hb4⟩
          have hV4 := HV.out.below hb4
          have hc4 := HCC.out.thenB hb4
          go_wp2_with fail
          refine (view_table P.2 gv gvs gvt _ hV4).mono ?_
          rintro e w5 ⟨A2, rfl, hF2, hb5⟩
          have hF1' := hF1.below hb5
          have hc5 := hc4.thenB hb5
          have HS1 : Hid (P.1.tab.length ≤ maxLen ∧ P.2.tab.length ≤ maxLen) := Lib.hid (by rw [← HQ.out.1, HQ.out.2.1]; unfold maxLen; omega)
          have HF1 := Lib.hid hF1'
          clear hF1 hF1' hb4 hb5 hV4
          go_wp2_with fail
          refine (same13_any (fun _ => True) (fun _ => True) A1 A2 _ _ P.1.tab P.2.tab _ (Fresh.C HF1.out (fun _ _ _ => trivial)) (Fresh.C hF2 (fun _ _ _ => trivial)) HS1.out.1 HS1.out.2).mono ?_
          rintro e w6 ⟨rfl, hb6⟩
          have hc6 := hc5.thenB hb6
          have e1 : decide (P.1.tab = P.2.tab) = true := by simp [HQ.out.1]
          rw [e1]
          have hF6 := HF1.out.below hb6
          have hC6 : kE.C (fun _ => True) w6 A1 P.1.tab := Fresh.C hF6 (fun _ _ _ => trivial)
          have hl4 := HQ.out.2.1
          obtain ⟨b, f, rfl, _, _, _, z0, _⟩ := ent_at hC6 0 (by omega)
          obtain ⟨b', f', he, _, _, _, z1, _⟩ := ent_at hC6 1 (by omega)
          injection he with he
          injection he with e1 e2 _
          subst e1 e2
          have y0 : (P.1.tab[0]'(by omega)).status = 0 := by have := HQ.out.2.2.1; simpa [View.at, hl4] using this
          have y1 : (P.1.tab[1]'(by omega)).status = 0 := by have := HQ.out.2.2.2; simpa [View.at, hl4] using this
          rw [y0] at z0
          rw [y1] at z1
          rw [hl4]
          go_wp2
          go_ret
          exact ⟨rfl, hc6.below⟩
end Go.Proofs.Ytmonbigaldamfaa
