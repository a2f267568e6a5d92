/- Operations: addresses, slices, what is built. -/
import Derived.Test.YtihcpmebabkagaaGreatAb6
set_option linter.unusedSimpArgs false
set_option linter.unusedVariables false
namespace Go.Ab
section
variable {P : Program} {ρ : Ren} {V : Nat → Prop} {H H' : Hp} {w : World}

theorem underlying_run {t : TypeId} {d : TypeDesc} (h : P.underlying t = some d) (w : World) : (underlying t).run P w = .ok d w := run_underlying h w
theorem list_mapM_run {α β : Type} {f : α → Sem β} {g : α → β} (w : World) : ∀ (l : List α), (∀ x ∈ l, (f x).run P w = .ok (g x) w) → (l.mapM f).run P w = .ok (l.map g) w
  | [], _ => by simp
  | x :: l, h => by
    have ih := list_mapM_run w l fun y hy => h y (by simp [hy])
    simp [List.mapM_cons, h x (by simp), ih]
theorem mapM_run {α β : Type} {f : α → Sem β} {g : α → β} (w : World) (as : Array α) (h : ∀ x ∈ as, (f x).run P w = .ok (g x) w) : (as.mapM f).run P w = .ok (as.map g) w := by
  rw [Array.mapM_eq_mapM_toList]
  simp only [Sem.run_map, list_mapM_run w as.toList (fun x hx => h x (Array.mem_def.2 hx)), Result.andThen_ok]
  congr 1
  apply Array.ext'
  simp

/-! ### fill -/
theorem fold_map (f : Value → Value) (off : Nat) : ∀ (l : List Value) (k : Nat) (cs : Array Value),
    (((l.map f).zipIdx k).foldl (fun cs p => cs.setIfInBounds (off + p.2) p.1) (cs.map f)) = ((l.zipIdx k).foldl (fun (cs : Array Value) p => cs.setIfInBounds (off + p.2) p.1) cs).map f
  | [], k, cs => rfl
  | x :: l, k, cs => by
    simp only [List.map_cons, List.zipIdx_cons, List.foldl_cons]
    rw [← fold_map f off l (k + 1)]
    congr 1
    apply Array.ext'
    simp [List.map_set]
theorem fold_mem (Q : Value → Prop) (off : Nat) : ∀ (l : List Value) (k : Nat) (cs : Array Value), (∀ x ∈ cs, Q x) → (∀ x ∈ l, Q x) →
    ∀ x ∈ (l.zipIdx k).foldl (fun (cs : Array Value) p => cs.setIfInBounds (off + p.2) p.1) cs, Q x
  | [], k, cs, h, _ => h
  | y :: l, k, cs, h, hl => by
    simp only [List.zipIdx_cons, List.foldl_cons]
    refine fold_mem Q off l (k + 1) _ (fun x hx => ?_) (fun x hx => hl x (by simp [hx]))
    rcases Array.mem_or_eq_of_mem_setIfInBounds hx with h1 | h1
    · exact h x h1
    · subst h1; exact hl _ (by simp)
theorem fill_sound {place : Nat → Option (Nat × Nat)} : ∀ (ps : List (Nat × Value)) (cs out : Array Value), (∀ p ∈ ps, p.2.cells.all one = true) → (∀ p ∈ ps, Bd V p.2) → (∀ x ∈ cs, Cl V x) → Instr.fill place cs ps = some out →
    Instr.fill place (cs.map (ren1 ρ)) (ps.map fun p => (p.1, ren ρ p.2)) = some (out.map (ren1 ρ)) ∧ ∀ x ∈ out, Cl V x
  | [], cs, out, _, _, hc, h => by simp only [Instr.fill, Option.some.injEq] at h; subst h; exact ⟨rfl, hc⟩
  | (i, v) :: ps, cs, out, h1, hb, hc, h => by
    simp only [Instr.fill, List.map_cons] at h ⊢
    cases hp : place i with
    | none => rw [hp] at h; cases h
    | some os =>
      obtain ⟨off, size⟩ := os
      rw [hp] at h
      have hv1 := h1 (i, v) (by simp)
      simp only at h hv1 ⊢
      split at h
      · cases h
      · rename_i hsz
        rw [if_neg (by rw [ren_cells_size hv1]; simpa using hsz)]
        rw [← Array.foldl_toList, Array.toList_zipIdx] at h ⊢
        rw [cells_one hv1, Array.toList_map, fold_map (ren1 ρ) off v.cells.toList 0 cs]
        refine fill_sound ps _ out (fun p hp => h1 p (by simp [hp])) (fun p hp => hb p (by simp [hp])) ?_ h
        exact fold_mem (Cl V) off _ 0 cs hc fun x hx => ⟨cells_bd hv1 (hb (i, v) (by simp)) x (Array.mem_def.2 hx), all_mem hv1 x hx⟩

theorem flat_cells {z : Value} (h : z.cells.all flat0 = true) : z.cells.map (ren1 ρ) = z.cells ∧ ∀ x ∈ z.cells, Cl V x := by
  have hf : ∀ x ∈ z.cells, flat0 x = true := fun x hx => all_mem h x (Array.mem_def.1 hx)
  exact ⟨amap_id fun x hx => ren1_flat (hf x hx), fun x hx => Cl_flat (hf x hx)⟩

/-! ### addresses -/
theorem fieldAt_sound {s : TypeId} {fields : Array Field} {f : Nat} {fl : Field} {i : TypeInfo} {a : Addr} (hu : P.underlying s = some (.struct fields)) (hf : fields[f]? = some fl) (hi : P.info? fl.type = some i) (h0 : i.size ≠ 0) :
    (Instr.fieldAt s (ren ρ (.pointer (some a))) f).run P w = .ok (ren ρ (.pointer (some (a.add fl.offset)))) w := by
  have e : ∀ a, ren ρ (.pointer (some a)) = .pointer (some (ρ.addr a)) := fun _ => rfl
  unfold Instr.fieldAt Instr.sureAddr fieldPlace
  rw [e, e, addr_add]
  simp only [Sem.run_bind, underlying_run hu, Result.andThen_ok, hf, Sem.run_pure, sizeOf_run hi, if_neg h0]
theorem indexAt_sound {t elem : TypeId} {s : TypeInfo} {x : Value} {a : Addr} {len : Nat} {k : IntKind} {i : Int} (hx : (P.underlying t = some (.array len elem) ∧ x = .pointer (some a)) ∨ (P.underlying t = some (.slice elem) ∧ ∃ c, x = .slice (some a) len c))
    (hs : P.info? elem = some s) (h0 : 0 ≤ i) (h1 : i < len) :
    (Instr.indexAt t (ren ρ x) (.int k i)).run P w = .ok (ren ρ (.pointer (some (a.add (i.toNat * s.size))))) w := by
  have e : ∀ a, ren ρ (.pointer (some a)) = .pointer (some (ρ.addr a)) := fun _ => rfl
  have e2 : ∀ a n c, ren ρ (.slice (some a) n c) = .slice (some (ρ.addr a)) n (ρ.cap (some a) c) := fun _ _ _ => rfl
  unfold Instr.indexAt Instr.sureAddr
  rcases hx with ⟨hu, rfl⟩ | ⟨hu, c, rfl⟩
  · rw [e, e, addr_add]
    simp only [Sem.run_bind, asIntOf, Sem.run_pure, underlying_run hu, Result.andThen_ok, sizeOf_run hs]
    rw [if_pos ⟨h0, h1⟩]
    simp only [Sem.run_bind, Sem.run_pure, Result.andThen_ok, sizeOf_run hs]
  · rw [e, e2, addr_add]
    simp only [Sem.run_bind, asIntOf, Sem.run_pure, underlying_run hu, Result.andThen_ok, sizeOf_run hs]
    rw [if_pos ⟨h0, h1⟩]
    simp only [Sem.run_bind, Sem.run_pure, Result.andThen_ok, sizeOf_run hs]
end
end Go.Ab
