/- For any two lists of raw calls of bulk at most 1048576 ViewAgrees answers true, and leaves its arguments as they were. -/
import Derived.Test.YtmonbigaldamfaaRows
import Derived.Test.YtmonbigaldamfaaT
import Derived.Test.YtmonbigaldamfaaL13c
import Derived.WalkKit
import Derived.ProofKit
import Derived.OpenShut
import Derived.ShutString
import Derived.ChangeOld
import Derived.Below
import Derived.SizedLaws
import Derived.JoinedCond
namespace Go.Proofs.Ytmonbigaldamfaa
open Go.RowKit Go.Osm
theorem reads_raw13 {H : Type} {enc : TypeId × Value → H} {w : World} {base : Nat} {spare : Nat → Bool} {held : Bool} : Reads enc Try.prog w base spare held 29 kR13 := by
  intro fuel cs x h
  obtain ⟨hl, hf⟩ := reads_fields (spec := [(3, 0, 1), (3, 1, 1), (3, 2, 1), (4, 3, 1), (4, 4, 1), (27, 5, 1)]) (by kernel_rfl) (by kernel_rfl) h
  have hl' : cs.length = 6 := hl.trans (by kernel_rfl)
  match cs, hl' with
  | [c0, c1, c2, c3, c4, c5], _ =>
    obtain ⟨n0, y0, h0⟩ := hf (3, 0, 1) (by simp)
    obtain ⟨n1, y1, h1⟩ := hf (3, 1, 1) (by simp)
    obtain ⟨n2, y2, h2⟩ := hf (3, 2, 1) (by simp)
    obtain ⟨n3, y3, h3⟩ := hf (4, 3, 1) (by simp)
    obtain ⟨n4, y4, h4⟩ := hf (4, 4, 1) (by simp)
    obtain ⟨n5, y5, h5⟩ := hf (27, 5, 1) (by simp)
    obtain ⟨z0, e0, _⟩ := DataW.trod_int Try.underlying3 h0
    obtain ⟨z1, e1, _⟩ := DataW.trod_int Try.underlying3 h1
    obtain ⟨z2, e2, _⟩ := DataW.trod_int Try.underlying3 h2
    obtain ⟨z3, e3, _⟩ := DataW.trod_bool Try.underlying4 h3
    obtain ⟨z4, e4, _⟩ := DataW.trod_bool Try.underlying4 h4
    simp at e0 e1 e2 e3 e4
    subst e0 e1 e2 e3 e4
    obtain ⟨xs, hS⟩ := reads_slice Try.underlying27 reads_rawEntry (by kernel_rfl) h5
    exact ⟨⟨z0, z1, z2, z3, z4, xs⟩, _, rfl, hS⟩
theorem bulk_one {H : Type} (d : DataW H) : 1 ≤ Rows.uptoBulk d := by
  cases d with
  | lit l => cases l <;> simp [Rows.uptoBulk]
  | nil => simp [Rows.uptoBulk]
  | ptr d => simp [Rows.uptoBulk]
  | slice elems spare => simp [Rows.uptoBulk]
  | agg parts => simp [Rows.uptoBulk]
  | iface t d => simp [Rows.uptoBulk]
  | map entries => simp [Rows.uptoBulk]
  | held h => simp [Rows.uptoBulk]
theorem bulk_len {H : Type} (l : List (DataW H)) : l.length ≤ Rows.uptoBulkAll l := by
  induction l with
  | nil => simp [Rows.uptoBulkAll]
  | cons x r ih => have := bulk_one x; simp only [Rows.uptoBulkAll, List.length_cons]; omega
theorem slice_bulk {H : Type} {enc : TypeId × Value → H} {P : Program} {w : World} {base : Nat} {spare : Nat → Bool} {held : Bool} {t e : TypeId} {fuel : Nat} {A : Option Addr} {n c : Nat} {x : DataW H × List MemPlace}
    (ht : P.underlying t = some (.slice e)) (h : DataW.trod enc P w base spare held fuel t [.slice A n c] = some x) : n ≤ Rows.uptoBulk x.1 := by
  rcases Deep.open_slice ht h with ⟨hv, _⟩ | ⟨a, len, cap, m, k, D, Pl, hv, hb, hl, hm, hmm, hx, hel⟩
  · injection hv with hv _
    injection hv with _ hv _
    omega
  · injection hv with hv _
    injection hv with _ hv _
    subst hx hv
    simp only [Rows.uptoBulk]
    have := bulk_len ((List.range n).map D)
    simp at this
    omega
end Go.Proofs.Ytmonbigaldamfaa
namespace Go.Proofs.Ytmonbigaldamfaa.viewAgrees
open Go.ChangeShapes Go.WideShapes Go.ChangeAt Go.RowKit Go.Osm
set_option linter.unusedVariables false
theorem own : ownKnob Try.prog.godebug = none := by kernel_rfl
theorem laidOut : laidOutB Try.prog = true := by kernel_rfl
set_option maxRecDepth 100000 in
theorem lifted (os : Os) (started : os.Started) (H : Type) (enc : TypeId × Value → H) (F : Stop.Interp) :
    ReturnsInHanded {} Try.checked os 3 .any ((Rows.OpenSpec.upto Rows.viewAgreesSpec).pre6 enc Try.prog Try.f3 Rows.viewAgreesUptoRow.domain false) (((Rows.OpenSpec.upto Rows.viewAgreesSpec).at F).post enc Try.prog Try.f3 false true false false) := by
  refine returnsInHanded_of_cond (C := Try.checked) (s := Rows.OpenSpec.upto Rows.viewAgreesSpec) (k := Rows.uptoSmall) rfl own started (by kernel_rfl) Try.func3
    (OpenSpec.witness (enc := enc) (C := Try.checked) (s := Rows.OpenSpec.upto Rows.viewAgreesSpec) (k := Rows.uptoSmall) rfl false ⟨#[], #[.slice none 0 0, .slice none 0 0], []⟩ 8 (by kernel_rfl) (by kernel_rfl) (by kernel_rfl)
      (x := ([.nil, .nil], [], [])) (by kernel_rfl) rfl (by kernel_rfl)) ?_
  intro W base args ds gs before hval0 hW hcnd hk0 _
  have hk : Rows.uptoSmall H (ds ++ gs) = true := hk0
  have hval : ∀ (j : Nat) t v, Try.f3.params[j]? = some t → args[j]? = some v → Value.okWide Try.prog W .any base t v := hval0
  have hW' := hW
  obtain ⟨p, q, hA0, hV, rfl, hfz, hnd⟩ := hW
  have hA : DataW.TrodAll enc Try.prog W 0 (fun _ => true) true Try.f3.params.toList args.toList ds p := hA0
  rw [Try.params3] at hA hval
  obtain ⟨v0, vs0, d0, ds0, p0, q0, hargs, rfl, rfl, h0, r0⟩ := trodAll_cons hA
  obtain ⟨v1, vs1, d1, ds1, p1, q1, hargs1, rfl, rfl, h1, r1⟩ := trodAll_cons r0
  obtain ⟨rfl, rfl, rfl⟩ := trodAll_nil r1
  subst hargs1
  obtain rfl : args = #[v0, v1] := by cases args; simp_all
  obtain ⟨rfl, rfl⟩ := trodVars_none hV
  obtain ⟨a0, len0, cap0, rfl⟩ := okWide_slice Try.underlying22 (hval 0 22 v0 rfl rfl)
  obtain ⟨a1, len1, cap1, rfl⟩ := okWide_slice Try.underlying22 (hval 1 22 v1 rfl rfl)
  have k0 := h0
  have k1 := h1
  have lt0 : ∀ x ∈ p0, x.block < W.heap.size := by obtain ⟨m, hm⟩ := k0; exact DataW.trod_lt m _ _ _ hm
  have lt1 : ∀ x ∈ p1, x.block < W.heap.size := by obtain ⟨m, hm⟩ := k1; exact DataW.trod_lt m _ _ _ hm
  obtain ⟨fuel0, hf0⟩ := h0
  obtain ⟨fuel1, hf1⟩ := h1
  have hkk : Rows.uptoBulkAll ([d0, d1] ++ []) ≤ 1048576 := by simpa [Rows.uptoSmall] using hk
  simp only [List.append_nil, Rows.uptoBulkAll] at hkk
  have b0 : len0 ≤ Rows.uptoBulk d0 := slice_bulk Try.underlying22 hf0
  have b1 : len1 ≤ Rows.uptoBulk d1 := slice_bulk Try.underlying22 hf1
  obtain ⟨xs, A, c, hv, g1, g2, g3, hC⟩ := reads_slice Try.underlying22 reads_raw13 (by kernel_rfl) hf0
  injection hv with e1 e2 e3
  subst e1 e2 e3
  obtain ⟨ys, B, c', hv, g1, g2, g3, hD⟩ := reads_slice Try.underlying22 reads_raw13 (by kernel_rfl) hf1
  injection hv with e1 e2 e3
  subst e1 e2 e3
  clear hA0 hval0
  refine (agrees_any _ _ _ _ xs ys W hC hD (by omega) (by omega)).mono fun e W' ⟨he, bel⟩ => ?_
  subst he
  exact ⟨_, rfl, _, _, _, [], _, [], hW', trodAll_mk1 (shut_bool Try.underlying4 _),
    (trodAll_cons_mk (Below.trod laidOut (by kernel_rfl) (of_decide_eq_true (by kernel_rfl)) k0 bel lt0) (trodAll_cons_mk (Below.trod laidOut (by kernel_rfl) (of_decide_eq_true (by kernel_rfl)) k1 bel lt1) trodAll_mk0)), rfl, bel.frame _, fun h => by cases h⟩
theorem over : Rows.viewAgreesUptoRow.holds Try.pinned (Rows.OpenSpec.upto Rows.viewAgreesSpec) :=
  OpenClaim.holds_of_cond 3 Try.f3 rfl rfl rfl rfl rfl rfl rfl ⟨rfl, rfl, rfl, rfl, rfl⟩ rfl rfl rfl rfl rfl (by kernel_rfl) Try.func3 (by kernel_rfl)
    (of_decide_eq_true (by kernel_rfl)) (by unfold Func.isWrapper; first | (rw [if_pos (by decide +kernel)]; kernel_rfl) | (rw [if_neg (by decide +kernel)]; exact ⟨rfl, rfl⟩))
    (fun os started H enc _ F => lifted os started H enc F)
end Go.Proofs.Ytmonbigaldamfaa.viewAgrees
namespace Go.Proofs.Ytmonbigaldamfaa
theorem viewAgrees_holds : Rows.ViewAgreesUptoSaid := viewAgrees.over
#print axioms viewAgrees_holds
end Go.Proofs.Ytmonbigaldamfaa
