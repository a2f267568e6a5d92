/- Operations: reading, writing. -/
import Derived.Test.YtihcpmebabkagaaGreatAb4
import Derived.Laws.Entries
set_option linter.unusedSimpArgs false
set_option linter.unusedVariables false
namespace Go.Ab

theorem add_mk (b o n : Nat) : (⟨b, o, none⟩ : Addr).add n = ⟨b, o + n, none⟩ := by unfold Addr.add; split <;> simp_all
theorem addr_add (ρ : Ren) (a : Addr) (n : Nat) : ρ.addr (a.add n) = (ρ.addr a).add n := by
  unfold Addr.add Ren.addr
  split
  · rfl
  · simp only [Addr.mk.injEq, and_true, true_and]; omega
theorem addr_mk (ρ : Ren) (b o : Nat) : ρ.addr ⟨b, o, none⟩ = ⟨ρ.β b, ρ.δ b + o, none⟩ := rfl
theorem addr_block (a : Addr) (n : Nat) : (a.add n).block = a.block := by unfold Addr.add; split <;> rfl

theorem pureSem_run {α : Type} (P : Program) : ∀ (s : Sem α) (a : α) (w : World), pureSem P s = some a → s.run P w = .ok a w := by
  intro s
  induction s with
  | pure b => intro a w h; simp [pureSem] at h; subst h; rfl
  | program k ih => intro a w h; simp only [pureSem] at h; exact ih P a w h
  | mark m k ih => intro a w h; simp only [pureSem] at h; exact ih a w h
  | _ => intro a w h; simp [pureSem] at h

/-! ### rows of cells -/
theorem setCells_size (vs : List Value) : ∀ (cs : Array Value) (o : Nat), (setCells cs o vs).size = cs.size := by
  induction vs with
  | nil => intro cs o; rfl
  | cons v l ih => intro cs o; simp [setCells, ih]
theorem setCells_get (vs : List Value) : ∀ (cs : Array Value) (o j : Nat), (setCells cs o vs)[j]? = if o ≤ j ∧ j < o + vs.length ∧ j < cs.size then vs[j - o]? else cs[j]? := by
  induction vs with
  | nil => intro cs o j; simp only [setCells, List.length_nil]; rw [if_neg (by omega)]
  | cons v l ih =>
    intro cs o j
    simp only [setCells, List.length_cons]
    rw [ih]
    rw [Array.size_setIfInBounds]
    by_cases h1 : o + 1 ≤ j ∧ j < o + 1 + l.length ∧ j < cs.size
    · rw [if_pos h1, if_pos (by omega)]
      obtain ⟨k, hk⟩ : ∃ k, j - o = k + 1 := ⟨j - o - 1, by omega⟩
      rw [hk, show j - (o + 1) = k by omega]; rfl
    · rw [if_neg h1]
      by_cases h2 : j = o
      · subst h2
        by_cases h3 : j < cs.size
        · rw [if_pos (by omega), Array.getElem?_setIfInBounds_self, if_pos h3]; simp
        · rw [if_neg (by omega), Array.getElem?_eq_none (by simp; omega), Array.getElem?_eq_none (by omega)]
      · rw [Array.getElem?_setIfInBounds_ne (by omega), if_neg (by omega)]
theorem wset_facts (b : Nat) (vs : List Value) : ∀ (o : Nat) (w : World), (∀ c, c ≠ b → (w.setCells b o vs).heap[c]? = w.heap[c]?) ∧ (w.setCells b o vs).heap.size = w.heap.size ∧ (w.setCells b o vs).os = w.os ∧ (w.setCells b o vs).tape = w.tape ∧ (w.setCells b o vs).output = w.output ∧
    (∀ a, (w.setCells b o vs).frozen? a = w.frozen? a) ∧ ∀ c ty fr, w.heap[b]? = some (.cells c ty fr) → (w.setCells b o vs).heap[b]? = some (.cells (setCells c o vs) ty fr) := by
  induction vs with
  | nil => intro o w; exact ⟨fun _ _ => rfl, rfl, rfl, rfl, rfl, fun _ => rfl, fun c ty fr h => h⟩
  | cons v l ih =>
    intro o w
    obtain ⟨h1, h2, h3, h4, h5, h6, h7⟩ := ih (o + 1) (w.setCell ⟨b, o, none⟩ v)
    simp only [World.setCells]
    refine ⟨fun c hc => (h1 c hc).trans ?_, h2.trans (by simp [World.setCell]), h3, h4, h5, fun a => (h6 a).trans (World.frozen?_setCell ..), fun c ty fr h => ?_⟩
    · simp only [World.setCell]; rw [Array.getElem?_modify, if_neg (by exact fun h => hc h.symm)]
    · refine h7 _ ty fr ?_
      simp only [World.setCell, Array.getElem?_modify, if_true, h, Option.map_some]
      simp
section
variable {P : Program} {ρ : Ren} {V : Nat → Prop} {H H' : Hp} {w : World}
/-- Cells are written to a row that is seen. -/
theorem store_cells (h : Sim ρ V H w) {b o z : Nat} {cs : Array Value} {vs : List Value} (hg : H.get b = some (.cells cs z)) (hle : o + vs.length ≤ cs.size) (hb : ∀ v ∈ vs, Cl V v) :
    (storeCells ⟨ρ.β b, ρ.δ b + o, none⟩ (vs.map (ren1 ρ))).run P w = .ok () (w.setCells (ρ.β b) (ρ.δ b + o) (vs.map (ren1 ρ))) ∧
      Post ρ V H w ρ (H.put b (some (.cells (setCells cs o vs) z))) (w.setCells (ρ.β b) (ρ.δ b + o) (vs.map (ren1 ρ))) := by
  obtain ⟨hv, hC, hB⟩ := h.get hg
  obtain ⟨f1, f2, f3, f4, f5, f6, f7⟩ := wset_facts (ρ.β b) (vs.map (ren1 ρ)) (ρ.δ b + o) w
  refine ⟨?_, h.put hg f1 f2 ?_ (fun es ck he => by cases he) f3 f4 f5⟩
  · refine run_storeCells_cells (P := P) (ρ.β b) (ρ.δ b + o) (vs.map (ren1 ρ)) 0 w (fun j hj => ?_) (fun j hj => ?_) (fun v hv => ?_)
    · rw [List.length_map] at hj
      have := (hC.free (o + j) (by omega)).1
      rwa [show ρ.δ b + o + 0 + j = ρ.δ b + (o + j) by omega]
    · rw [List.length_map] at hj
      have := (hC.free (o + j) (by omega)).2
      rwa [show ρ.δ b + o + 0 + j = ρ.δ b + (o + j) by omega]
    · obtain ⟨u, hu, rfl⟩ := List.mem_map.1 hv
      exact one_ren (hb u hu).one
  · rintro cs' z' he
    injection he with e1 e2
    subst e1 e2
    obtain ⟨c, ty, fr, ho⟩ := hC.obj
    have hn := f7 c ty fr ho
    have hcs : ∀ j, j < cs.size + ρ.ξ b * z → ρ.δ b + j < c.size := by
      intro j hj
      have := (hC.free j hj).1
      simp only [World.cell?, ho] at this
      simpa using this
    refine ⟨⟨⟨_, ty, fr, hn⟩, fun j u hu => ?_, fun j hj => ⟨?_, ?_⟩⟩, ?_⟩
    · have hjl : j < cs.size := by have := (Array.getElem?_eq_some_iff.1 hu).1; rwa [setCells_size] at this
      have hcj := hcs j (by omega)
      rw [setCells_get vs cs o j] at hu
      simp only [World.cell?, hn]
      simp only [Option.isSome_none, Bool.false_eq_true, if_false]
      rw [setCells_get]
      rw [List.length_map]
      split at hu
      · rw [if_pos (by omega), show ρ.δ b + j - (ρ.δ b + o) = j - o by omega, List.getElem?_map, hu]; rfl
      · rw [if_neg (by omega)]
        have := hC.cell j u hu
        simp only [World.cell?, ho] at this
        simpa using this
    · rw [setCells_size] at hj
      simp only [World.cell?, hn]
      have := hcs j hj
      simp [setCells_size, this]
    · rw [setCells_size] at hj
      rw [f6]
      exact (hC.free j hj).2
    · intro u hu
      obtain ⟨j, hj⟩ := Array.mem_iff_getElem?.1 hu
      rw [setCells_get vs cs o j] at hj
      split at hj
      · exact hb u (List.mem_of_getElem? hj)
      · exact hB u (Array.mem_of_getElem? hj)
end
end Go.Ab
