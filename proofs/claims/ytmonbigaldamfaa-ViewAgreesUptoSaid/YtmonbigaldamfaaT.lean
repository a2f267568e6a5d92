/- From the row's own reading of an argument to the words of the walks. -/
import Derived.Test.YtmonbigaldamfaaB
import Derived.ProofKit
import Derived.OpenShut
import Derived.ShutString
import Derived.ChangeOld
import Derived.Below
import Derived.SizedLaws
import Derived.Deep.Slices
namespace Go.Osm
open Go.RowKit
section
variable {H : Type} {enc : TypeId × Value → H} {P : Program} {w : World} {base : Nat} {spare : Nat → Bool} {held : Bool}
/-- What reads at a type is data of a kind. -/
def Reads (enc : TypeId × Value → H) (P : Program) (w : World) (base : Nat) (spare : Nat → Bool) (held : Bool) (t : TypeId) {α : Type} (d : Kd α) : Prop :=
  ∀ fuel cs x, DataW.trod enc P w base spare held fuel t cs = some x → ∃ y, d.K (fun i => i < w.heap.size) w y cs
theorem reads_int {t : TypeId} (ht : P.underlying t = some (.int .i64)) : Reads enc P w base spare held t kI := by
  intro fuel cs x h
  obtain ⟨n, rfl, _, _⟩ := DataW.trod_int ht h
  exact ⟨n, rfl⟩
theorem reads_bool {t : TypeId} (ht : P.underlying t = some .bool) : Reads enc P w base spare held t kB := by
  intro fuel cs x h
  obtain ⟨n, rfl, _⟩ := DataW.trod_bool ht h
  exact ⟨n, rfl⟩
theorem reads_string {t : TypeId} (ht : P.underlying t = some .string) : Reads enc P w base spare held t kS := by
  intro fuel cs x h
  obtain ⟨n, rfl, _⟩ := DataW.trod_string ht h
  exact ⟨n, rfl⟩
/-- A struct's fields: type, place, cells. -/
theorem reads_fields {t : TypeId} {spec : List (TypeId × Nat × Nat)} {fuel : Nat} {cs : List Value} {x : DataW H × List MemPlace} (hu : P.underlying t = some (.struct (P.fieldsOf t)))
    (hs : (P.fieldsOf t).toList.map (fun f => (f.type, f.offset, P.cellsOf f.type)) = spec) (h : DataW.trod enc P w base spare held fuel t cs = some x) :
    cs.length = P.cellsOf t ∧ ∀ p ∈ spec, ∃ n y, DataW.trod enc P w base spare held n p.1 ((cs.drop p.2.1).take p.2.2) = some y := by
  obtain ⟨xs, n, _, _, hl, hxl, hf⟩ := DataW.trod_struct hu h
  refine ⟨hl, fun p hp => ?_⟩
  subst hs
  obtain ⟨f, hfm, rfl⟩ := List.mem_map.1 hp
  obtain ⟨i, hi⟩ := List.getElem?_of_mem hfm
  have hi' : (P.fieldsOf t)[i]? = some f := by simpa using hi
  have := hf i f hi'
  have hlt : i < xs.length := by rw [hxl]; exact (Array.getElem?_eq_some_iff.1 hi').1
  rw [List.getElem?_eq_getElem hlt] at this
  exact ⟨n, _, this⟩
theorem cells?_get {a : Addr} {n : Nat} {cs : List Value} (h : w.cells? base a n = some cs) : cs.length = n ∧ ∀ j u, cs[j]? = some u → w.cell? (a.add j) = some u := by
  unfold World.cells? at h
  split at h
  · have hl := mapM_some_length h
    refine ⟨by simpa using hl, fun j u hu => ?_⟩
    have hj : j < n := by have := (List.getElem?_eq_some_iff.1 hu).1; rw [hl] at this; simpa using this
    have := mapM_some_get h j j (by simp [hj])
    rw [this, hu]
  · cases h
theorem spot_none {a : Addr} {u : Value} (h : w.cell? a = some u) : a.spot = none := by
  unfold World.cell? at h
  split at h
  · split at h
    · cases h
    · simpa using ‹¬a.spot.isSome = true›
  · cases h
/-- A slice that reads: as a list. -/
theorem reads_slice {t e : TypeId} {α : Type} {d : Kd α} (ht : P.underlying t = some (.slice e)) (hd : Reads enc P w base spare held e d) (hc : P.cellsOf e = d.sz) {fuel : Nat} {v : Value} {x : DataW H × List MemPlace}
    (h : DataW.trod enc P w base spare held fuel t [v] = some x) : ∃ xs, d.S (fun i => i < w.heap.size) w v xs := by
  rcases Deep.open_slice ht h with ⟨hv, _⟩ | ⟨a, len, cap, m, n, D, Pl, hv, hb, hl, hm, hmm, hx, hel⟩
  · injection hv with hv _
    subst hv
    exact ⟨[], Kd.S_nil⟩
  · injection hv with hv _
    subst hv
    have hlm : len ≤ m := by rw [hmm]; split <;> omega
    have H : ∀ k, k ≤ len → ∃ xs : List α, xs.length = k ∧ ∀ i y, xs[i]? = some y → ∃ cs, d.K (fun i => i < w.heap.size) w y cs ∧ ∀ j u, cs[j]? = some u → w.cell? (a.add (i * d.sz + j)) = some u := by
      intro k
      induction k with
      | zero => intro _; exact ⟨[], rfl, fun i y h => by simp at h⟩
      | succ k ih =>
        intro hk
        obtain ⟨xs, h1, h2⟩ := ih (by omega)
        obtain ⟨cs, hcs, htr⟩ := hel k (by omega)
        obtain ⟨y, hy⟩ := hd _ _ _ htr
        have hg := cells?_get hcs
        refine ⟨xs ++ [y], by simp [h1], fun i z hz => ?_⟩
        by_cases hi : i < xs.length
        · rw [List.getElem?_append_left hi] at hz
          exact h2 i z hz
        · rw [List.getElem?_append_right (by omega)] at hz
          have hik : i = xs.length := by
            have := (List.getElem?_eq_some_iff.1 hz).1
            simp at this
            omega
          subst hik
          simp at hz
          subst hz
          refine ⟨cs, hy, fun j u hu => ?_⟩
          have := hg.2 j u hu
          rw [h1, ← hc, ← Addr.add_add]
          exact this
    obtain ⟨xs, h1, h2⟩ := H len (Nat.le_refl _)
    refine ⟨xs, some a, cap, by rw [h1], by omega, hm, (by intro h; cases h), ?_⟩
    cases xs with
    | nil => exact .inl rfl
    | cons y ys =>
      obtain ⟨cs, hk, hcs⟩ := h2 0 y rfl
      have hpos := d.pos
      have hlen := d.len hk
      have h0 := hcs 0 cs[0] (List.getElem?_eq_getElem (by omega))
      simp only [Nat.zero_mul, Nat.add_zero] at h0
      have ha0 : a.add 0 = a := by simp [Addr.add]
      rw [ha0] at h0
      have hsp := spot_none h0
      obtain ⟨b, f, sp⟩ := a
      simp only at hsp
      subst hsp
      refine .inr ⟨b, f, rfl, World.block_lt_of_cell? _ _ h0, World.block_lt_of_cell? _ _ h0, fun i z hz => ?_⟩
      obtain ⟨cs', k1, k2⟩ := h2 i z hz
      exact ⟨cs', k1, fun j u hu => by have := k2 j u hu; rwa [add_plain] at this⟩
end
end Go.Osm
namespace Go.Proofs.Ytmonbigaldamfaa
open Go.RowKit Go.Osm
theorem reads_rawEntry {H : Type} {enc : TypeId × Value → H} {w : World} {base : Nat} {spare : Nat → Bool} {held : Bool} : Reads enc Try.prog w base spare held 74 kE := by
  intro fuel cs x h
  obtain ⟨hl, hf⟩ := reads_fields (spec := [(3, 0, 1), (3, 1, 1), (3, 2, 1), (3, 3, 1), (4, 4, 1)]) (by kernel_rfl) (by kernel_rfl) h
  have hl' : cs.length = 5 := hl.trans (by kernel_rfl)
  match cs, hl' with
  | [c0, c1, c2, c3, c4], _ =>
    obtain ⟨n0, y0, h0⟩ := hf (3, 0, 1) (by simp)
    obtain ⟨n1, y1, h1⟩ := hf (3, 1, 1) (by simp)
    obtain ⟨n2, y2, h2⟩ := hf (3, 2, 1) (by simp)
    obtain ⟨n3, y3, h3⟩ := hf (3, 3, 1) (by simp)
    obtain ⟨n4, y4, h4⟩ := hf (4, 4, 1) (by simp)
    obtain ⟨z0, e0, _⟩ := DataW.trod_int Try.underlying3 h0
    obtain ⟨z1, e1, _⟩ := DataW.trod_int Try.underlying3 h1
    obtain ⟨z2, e2, _⟩ := DataW.trod_int Try.underlying3 h2
    obtain ⟨z3, e3, _⟩ := DataW.trod_int Try.underlying3 h3
    obtain ⟨z4, e4, _⟩ := DataW.trod_bool Try.underlying4 h4
    simp at e0 e1 e2 e3 e4
    subst e0 e1 e2 e3 e4
    exact ⟨⟨z0, z1, z2, z3, z4⟩, rfl⟩
end Go.Proofs.Ytmonbigaldamfaa
