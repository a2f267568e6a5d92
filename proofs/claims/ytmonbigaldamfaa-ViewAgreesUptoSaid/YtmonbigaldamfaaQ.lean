/- '==' of structs, field by field. -/
import Derived.Test.YtmonbigaldamfaaB
import Derived.Laws.StructEq
namespace Go.Osm
open Go.RowKit
section
variable {P : Program} {d : Nat} {xs ys : Array Value} {W : World}
/-- The fields' comparisons, in a row: r is what they come to. -/
inductive EqR (P : Program) (d : Nat) (xs ys : Array Value) (W : World) : List (TypeId × Nat) → Bool → Prop
  | nil : EqR P d xs ys W [] true
  | cons {t o ps a b r s} (ha : (part t xs o).run P W = .ok a W) (hb : (part t ys o).run P W = .ok b W) (he : (Op.equalIn d t a b).run P W = .ok r W) (hr : EqR P d xs ys W ps s) : EqR P d xs ys W ((t, o) :: ps) (r && s)
theorem run_eqFields {ps : List (TypeId × Nat)} {r : Bool} (h : EqR P d xs ys W ps r) : ∀ L : List Field, L.map (fun f => (f.name == "_", f.type, f.offset)) = ps.map (fun p => (false, p.1, p.2)) → (Op.eqFields d xs ys L).run P W = .ok r W := by
  induction h with
  | nil => intro L hL; cases L with
    | nil => simp [Op.eqFields]
    | cons f L => simp at hL
  | cons ha hb he hr ih =>
    intro L hL
    cases L with
    | nil => simp at hL
    | cons f L =>
      simp only [List.map_cons, List.cons.injEq, Prod.mk.injEq] at hL
      obtain ⟨⟨h1, h2, h3⟩, h4⟩ := hL
      have hn : f.name ≠ "_" := by simpa using h1
      subst h2 h3
      rw [Op.eqFields]
      simp only [if_pos hn, Sem.run_bind, ha, hb, he, Result.andThen_ok]
      rename_i r' s'
      cases r'
      · simp
      · simpa using ih L h4
theorem run_equalIn_agg {t : TypeId} {ps : List (TypeId × Nat)} {r : Bool} (hu : P.underlying t = some (.struct (P.fieldsOf t))) (hp : P.stoodInHeld t = false) (hL : (P.fieldsOf t).toList.map (fun f => (f.name == "_", f.type, f.offset)) = ps.map (fun p => (false, p.1, p.2))) (h : EqR P d xs ys W ps r) :
    (Op.equalIn (d + 1) t (.agg xs) (.agg ys)).run P W = .ok r W := by
  rw [run_equalIn_struct (P := P) W d t xs ys hu hp]
  exact run_eqFields h _ hL
theorem run_eql_agg {t : TypeId} {ps : List (TypeId × Nat)} {r : Bool} (hu : P.underlying t = some (.struct (P.fieldsOf t))) (hp : P.stoodInHeld t = false) (hL : (P.fieldsOf t).toList.map (fun f => (f.name == "_", f.type, f.offset)) = ps.map (fun p => (false, p.1, p.2))) (h : EqR P 9999 xs ys W ps r) :
    (binOp .eql t (.agg xs) (.agg ys)).run P W = .ok (.bool r) W := by
  simp only [binOp, Op.equal, Op.maxDepth, Sem.run_bind]
  rw [run_equalIn_agg (d := 9999) hu hp hL h]
  simp
theorem run_neq_agg {t : TypeId} {ps : List (TypeId × Nat)} {r : Bool} (hu : P.underlying t = some (.struct (P.fieldsOf t))) (hp : P.stoodInHeld t = false) (hL : (P.fieldsOf t).toList.map (fun f => (f.name == "_", f.type, f.offset)) = ps.map (fun p => (false, p.1, p.2))) (h : EqR P 9999 xs ys W ps r) :
    (binOp .neq t (.agg xs) (.agg ys)).run P W = .ok (.bool (!r)) W := by
  simp only [binOp, Op.equal, Op.maxDepth, Sem.run_bind]
  rw [run_equalIn_agg (d := 9999) hu hp hL h]
  simp
end
end Go.Osm
namespace Go.Proofs.Ytmonbigaldamfaa
open Go.RowKit Go.Osm
theorem eqR_entry (x y : Entry) (W : World) (d : Nat) : ∃ r, (r = decide (x = y)) ∧ EqR Try.prog (d + 1) #[.int .i64 x.inc, .int .i64 x.status, .int .i64 x.stamp, .int .i64 x.load, .bool x.drain] #[.int .i64 y.inc, .int .i64 y.status, .int .i64 y.stamp, .int .i64 y.load, .bool y.drain] W [(3, 0), (3, 1), (3, 2), (3, 3), (4, 4)] r := by
  refine ⟨_, ?_, .cons (a := .int .i64 x.inc) (b := .int .i64 y.inc) (r := x.inc == y.inc) ?_ ?_ ?_ (.cons (a := .int .i64 x.status) (b := .int .i64 y.status) (r := x.status == y.status) ?_ ?_ ?_ (.cons (a := .int .i64 x.stamp) (b := .int .i64 y.stamp) (r := x.stamp == y.stamp) ?_ ?_ ?_ (.cons (a := .int .i64 x.load) (b := .int .i64 y.load) (r := x.load == y.load) ?_ ?_ ?_ (.cons (a := .bool x.drain) (b := .bool y.drain) (r := x.drain == y.drain) ?_ ?_ ?_ .nil))))⟩
  · cases x; cases y
    rw [Bool.eq_iff_iff]
    simp
  all_goals kernel_rfl
theorem eql_entry (x y : Entry) (W : World) : (binOp .eql 39 x.val y.val).run Try.prog W = .ok (.bool (decide (x = y))) W := by
  obtain ⟨r, hr, h⟩ := eqR_entry x y W 9998
  rw [← hr]
  exact run_eql_agg (by kernel_rfl) (by kernel_rfl) (by kernel_rfl) h
theorem neq_entry (x y : Entry) (W : World) : (binOp .neq 39 x.val y.val).run Try.prog W = .ok (.bool (!decide (x = y))) W := by
  obtain ⟨r, hr, h⟩ := eqR_entry x y W 9998
  rw [← hr]
  exact run_neq_agg (by kernel_rfl) (by kernel_rfl) (by kernel_rfl) h
end Go.Proofs.Ytmonbigaldamfaa
