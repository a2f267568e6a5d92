/- The laws of chapter 13: their walks. -/
import Derived.Test.YtmonbigaldamfaaV3
import Derived.Test.YtmonbigaldamfaaH
namespace Go.Proofs.Ytmonbigaldamfaa
open Go.RowKit Go.Osm

theorem tick_known (g gs gt : Nat) (w : World) (hV : VA w g gs gt (View.new 0 3 1)) (V : View) (h : V = ((View.new 0 3 1).tick 1 5 false).1) :
    Calls Try.prog 15 #[.pointer (some ⟨g, 0, none⟩), .int .i64 1, .int .i64 5, .bool false] w fun e w' =>
      e = .returned (.tuple #[.int .i64 1, .bool true]) ∧ VA w' g gs gt V ∧ Chg [g, gs, gt] w w' := by
  have k1 : ((View.new 0 3 1).tick 1 5 false).2 = (1, true) := by kernel_rfl
  have := view_tick _ g gs gt w hV (View.new_ok 0 3 1) 1 5 false
  rwa [k1, ← h] at this
theorem entry0_known {V : View} {x : Entry} (g gs gt : Nat) (w : World) (hV : VA w g gs gt V) (hx : V.at 0 = x) (hl : 0 < V.tab.length) :
    Calls Try.prog 21 #[.pointer (some ⟨g, 0, none⟩), .int .i64 0] w fun e w' => e = .returned (.agg #[.int .i64 x.inc, .int .i64 x.status, .int .i64 x.stamp, .int .i64 x.load, .bool x.drain]) ∧ Below w.heap.size w w' := by
  have := view_entry V g gs gt w hV 0
  rw [if_pos (by omega)] at this
  rw [← hx]
  exact this
theorem here_known {V : View} {n : Nat} (g gs gt : Nat) (w : World) (hV : VA w g gs gt V) (hn : V.here.length = n) :
    Calls Try.prog 20 #[.pointer (some ⟨g, 0, none⟩)] w fun e w' => ∃ A, e = .returned (.slice A n n) ∧ Below w.heap.size w w' := by
  refine (view_here V g gs gt w hV).mono ?_
  rintro e w' ⟨A, rfl, _, hb⟩
  rw [hn]
  exact ⟨A, rfl, hb⟩
theorem known13_any (w : World) : Calls Try.prog 13 #[] w fun e w' => e = .returned (.bool true) ∧ Below w.heap.size w w' := by
  have k1 : ((View.new 0 3 1).tick 1 5 false).2 = (1, true) := by kernel_rfl
  have k2 : ((View.new 0 3 1).tick 1 5 false).1.tab.length = 3 := by kernel_rfl
  have k3 : ((View.new 0 3 1).tick 1 5 false).1.at 0 = ⟨1, 0, 1, 5, false⟩ := by kernel_rfl
  have k4 : ((View.new 0 3 1).tick 1 5 false).1.here.length = 3 := by kernel_rfl
  obtain ⟨V, hV⟩ : ∃ V, V = ((View.new 0 3 1).tick 1 5 false).1 := ⟨_, rfl⟩
  rw [← hV] at k2 k3 k4
  have HV := Lib.hid hV
  have K1 := Lib.hid k1
  have K2 := Lib.hid k2
  have K3 := Lib.hid k3
  have K4 := Lib.hid k4
  clear hV k1 k2 k3 k4
  go_enter Try.func13, Try.ntmps13
  go_wp2_with (first
    | (go_at_call 12; refine (view_new 0 3 1 _).mono ?_; rintro e w1 ⟨g, gs, gt, rfl, hV1, hg, hgs, hgt, hb1⟩)
    | (go_at_call 15; refine (tick_known g gs gt _ hV1 V HV.out).mono ?_; rintro e w2 ⟨rfl, hV2, hc2⟩)
    | (go_at_call 21; refine (entry0_known g gs gt _ hV2 K3.out (by rw [K2.out]; decide)).mono ?_; rintro e w3 ⟨rfl, hb3⟩; have hV3 := hV2.below hb3)
    | (go_at_call 20; refine (here_known g gs gt _ hV3 K4.out).mono ?_; rintro e w4 ⟨A, rfl, hb4⟩))
  go_ret
  refine ⟨rfl, Chg.below ((((Chg.of_below (S := []) hb1).then hc2 ?_).thenB hb3).thenB hb4)⟩
  intro i hi
  simp only [List.mem_cons, List.not_mem_nil, or_false] at hi
  rcases hi with rfl | rfl | rfl <;> exact .inr (by assumption)
end Go.Proofs.Ytmonbigaldamfaa
