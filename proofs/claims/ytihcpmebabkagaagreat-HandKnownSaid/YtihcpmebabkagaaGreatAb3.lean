/- The abstract machine and the model: renaming, the relation. -/
import Derived.Test.YtihcpmebabkagaaGreatAb2
import Derived.WalkKit
import Derived.Laws.Sem
import Derived.Laws.IdiomCopy
import Derived.Below
set_option linter.unusedSimpArgs false
set_option linter.unusedVariables false
namespace Go.Ab

/-! ### trees -/
theorem Tr.get_e (i : Nat) : Tr.e.get i = none := by simp [Tr.get]
theorem Tr.get_setF (v : Option Blk) : ∀ (k : Nat) (t : Tr) (i j : Nat), i < k → (Tr.setF v k t i).get j = if j = i then v else t.get j := by
  intro k
  induction k with
  | zero => intro t i j h; omega
  | succ k ih =>
    intro t i j h
    cases t with
    | e =>
      simp only [Tr.setF]
      split
      · subst i; simp only [Tr.get]; split <;> simp
      · split
        · simp only [Tr.get]
          rw [ih _ _ _ (by omega)]
          simp only [Tr.get]
          split
          · rw [if_neg (by omega)]
          · split
            · split
              · rw [if_pos (by omega)]
              · rw [if_neg (by omega)]
            · rw [if_neg (by omega)]
        · simp only [Tr.get]
          rw [ih _ _ _ (by omega)]
          simp only [Tr.get]
          split
          · rw [if_neg (by omega)]
          · split
            · rw [if_neg (by omega)]
            · split
              · rw [if_pos (by omega)]
              · rw [if_neg (by omega)]
    | n u l r =>
      simp only [Tr.setF]
      split
      · subst i; simp only [Tr.get]; split <;> simp
      · split
        · simp only [Tr.get]
          rw [ih _ _ _ (by omega)]
          split
          · rw [if_neg (by omega)]
          · split
            · split
              · rw [if_pos (by omega)]
              · rw [if_neg (by omega)]
            · rw [if_neg (by omega)]
        · simp only [Tr.get]
          rw [ih _ _ _ (by omega)]
          split
          · rw [if_neg (by omega)]
          · split
            · rw [if_neg (by omega)]
            · split
              · rw [if_pos (by omega)]
              · rw [if_neg (by omega)]
theorem Tr.get_set (v : Option Blk) (t : Tr) (i j : Nat) : (t.set i v).get j = if j = i then v else t.get j := Tr.get_setF v (i + 1) t i j (by omega)

def Hp.hid (H : Hp) (b : Nat) : Bool := H.msk.any fun m => m.1 ≤ b && b < m.2
theorem Hp.get_eq (H : Hp) (b : Nat) : H.get b = if H.hid b then none else H.tr.get b := rfl
theorem Hp.get_some {H : Hp} {b : Nat} {o : Blk} (h : H.get b = some o) : H.hid b = false ∧ H.tr.get b = some o := by
  rw [Hp.get_eq] at h; split at h
  · cases h
  · exact ⟨by simpa using ‹¬ H.hid b = true›, h⟩
theorem Hp.hid_new (H : Hp) (o : Option Blk) (b : Nat) : (H.new o).hid b = H.hid b := rfl
theorem Hp.hid_put (H : Hp) (c : Nat) (o : Option Blk) (b : Nat) : (H.put c o).hid b = H.hid b := rfl
theorem Hp.tr_new (H : Hp) (o : Option Blk) (b : Nat) : (H.new o).tr.get b = if b = H.size then o else H.tr.get b := Tr.get_set ..
theorem Hp.tr_put (H : Hp) (c : Nat) (o : Option Blk) (b : Nat) : (H.put c o).tr.get b = if b = c then o else H.tr.get b := Tr.get_set ..

/-! ### renaming -/
structure Ren where
  β : Nat → Nat
  δ : Nat → Nat
  ξ : Nat → Nat
def Ren.addr (ρ : Ren) (a : Addr) : Addr := ⟨ρ.β a.block, ρ.δ a.block + a.off, a.spot⟩
def Ren.cap (ρ : Ren) (a : Option Addr) (c : Nat) : Nat :=
  match a with
  | none => c
  | some a => if big ≤ c then c - big + ρ.ξ a.block else c
def ren0 (ρ : Ren) : Value → Value
  | .pointer a => .pointer (a.map ρ.addr)
  | .slice a n c => .slice (a.map ρ.addr) n (ρ.cap a c)
  | .map r => .map (r.map ρ.β)
  | v => v
def ren1 (ρ : Ren) : Value → Value
  | .func fn f c => .func fn (f.map (ren0 ρ)) (c.map (ren0 ρ))
  | v => ren0 ρ v
def ren2 (ρ : Ren) : Value → Value
  | .agg cs => .agg (cs.map (ren1 ρ))
  | v => ren1 ρ v
def ren (ρ : Ren) : Value → Value
  | .tuple vs => .tuple (vs.map (ren2 ρ))
  | v => ren2 ρ v
def Bd0 (V : Nat → Prop) : Value → Prop
  | .pointer (some a) => V a.block
  | .slice (some a) _ _ => V a.block
  | .map (some r) => V r
  | _ => True
def Bd1 (V : Nat → Prop) : Value → Prop
  | .func _ f c => (∀ x ∈ f, Bd0 V x) ∧ ∀ x ∈ c, Bd0 V x
  | v => Bd0 V v
def Bd2 (V : Nat → Prop) : Value → Prop
  | .agg cs => ∀ x ∈ cs, Bd1 V x
  | v => Bd1 V v
def Bd (V : Nat → Prop) : Value → Prop
  | .tuple vs => ∀ x ∈ vs, Bd2 V x
  | v => Bd2 V v
def Ext (V : Nat → Prop) (ρ ρ' : Ren) : Prop := ∀ b, V b → ρ'.β b = ρ.β b ∧ ρ'.δ b = ρ.δ b ∧ ρ'.ξ b = ρ.ξ b

theorem Ext.refl (V : Nat → Prop) (ρ : Ren) : Ext V ρ ρ := fun _ _ => ⟨rfl, rfl, rfl⟩
theorem Ext.trans {V V' : Nat → Prop} {a b c : Ren} (h : Ext V a b) (hv : ∀ i, V i → V' i) (k : Ext V' b c) : Ext V a c := fun i hi =>
  ⟨(k i (hv i hi)).1.trans (h i hi).1, (k i (hv i hi)).2.1.trans (h i hi).2.1, (k i (hv i hi)).2.2.trans (h i hi).2.2⟩

theorem amap_congr {α β : Type} {f g : α → β} {as : Array α} (h : ∀ x ∈ as, f x = g x) : as.map f = as.map g := by
  apply Array.ext'
  rw [Array.toList_map, Array.toList_map]
  exact List.map_congr_left fun x hx => h x (by simpa using hx)
theorem amap_id {α : Type} {f : α → α} {as : Array α} (h : ∀ x ∈ as, f x = x) : as.map f = as := by
  apply Array.ext'
  rw [Array.toList_map]
  conv => rhs; rw [← List.map_id as.toList]
  exact List.map_congr_left fun x hx => h x (by simpa using hx)

section
variable {V V' : Nat → Prop} {ρ ρ' : Ren}
theorem ren0_ext (h : Ext V ρ ρ') {v : Value} (hb : Bd0 V v) : ren0 ρ' v = ren0 ρ v := by
  cases v
  case pointer a =>
    cases a with
    | none => rfl
    | some a => obtain ⟨h1, h2, h3⟩ := h a.block hb; simp [ren0, Ren.addr, h1, h2]
  case slice a n c =>
    cases a with
    | none => rfl
    | some a => obtain ⟨h1, h2, h3⟩ := h a.block hb; simp [ren0, Ren.addr, Ren.cap, h1, h2, h3]
  case map r =>
    cases r with
    | none => rfl
    | some r => obtain ⟨h1, _⟩ := h r hb; simp [ren0, h1]
  all_goals rfl
theorem ren1_ext (h : Ext V ρ ρ') {v : Value} (hb : Bd1 V v) : ren1 ρ' v = ren1 ρ v := by
  cases v
  case func fn f c =>
    simp only [ren1]
    rw [amap_congr fun x hx => ren0_ext h (hb.1 x hx), amap_congr fun x hx => ren0_ext h (hb.2 x hx)]
  case pointer a => exact ren0_ext (v := .pointer a) h hb
  case slice a n c => exact ren0_ext (v := .slice a n c) h hb
  case map a => exact ren0_ext (v := .map a) h hb
  all_goals rfl
theorem ren2_ext (h : Ext V ρ ρ') {v : Value} (hb : Bd2 V v) : ren2 ρ' v = ren2 ρ v := by
  cases v
  case agg cs =>
    simp only [ren2]
    rw [amap_congr fun x hx => ren1_ext h (hb x hx)]
  case func fn f c => exact ren1_ext (v := .func fn f c) h hb
  case pointer a => exact ren1_ext (v := .pointer a) h hb
  case slice a n c => exact ren1_ext (v := .slice a n c) h hb
  case map a => exact ren1_ext (v := .map a) h hb
  all_goals rfl
theorem ren_ext (h : Ext V ρ ρ') {v : Value} (hb : Bd V v) : ren ρ' v = ren ρ v := by
  cases v
  case tuple cs =>
    simp only [ren]
    rw [amap_congr fun x hx => ren2_ext h (hb x hx)]
  case agg cs => exact ren2_ext (v := .agg cs) h hb
  case func fn f c => exact ren2_ext (v := .func fn f c) h hb
  case pointer a => exact ren2_ext (v := .pointer a) h hb
  case slice a n c => exact ren2_ext (v := .slice a n c) h hb
  case map a => exact ren2_ext (v := .map a) h hb
  all_goals rfl
theorem Bd0.mono (hv : ∀ b, V b → V' b) {v : Value} (h : Bd0 V v) : Bd0 V' v := by
  cases v
  case pointer a => cases a with | none => trivial | some a => exact hv _ h
  case slice a n c => cases a with | none => trivial | some a => exact hv _ h
  case map a => cases a with | none => trivial | some a => exact hv _ h
  all_goals trivial
theorem Bd1.mono (hv : ∀ b, V b → V' b) {v : Value} (h : Bd1 V v) : Bd1 V' v := by
  cases v
  case func fn f c => exact ⟨fun x hx => Bd0.mono hv (h.1 x hx), fun x hx => Bd0.mono hv (h.2 x hx)⟩
  case pointer a => exact Bd0.mono (v := .pointer a) hv h
  case slice a n c => exact Bd0.mono (v := .slice a n c) hv h
  case map a => exact Bd0.mono (v := .map a) hv h
  all_goals trivial
theorem Bd2.mono (hv : ∀ b, V b → V' b) {v : Value} (h : Bd2 V v) : Bd2 V' v := by
  cases v
  case agg cs => exact fun x hx => Bd1.mono hv (h x hx)
  case func fn f c => exact Bd1.mono (v := .func fn f c) hv h
  case pointer a => exact Bd1.mono (v := .pointer a) hv h
  case slice a n c => exact Bd1.mono (v := .slice a n c) hv h
  case map a => exact Bd1.mono (v := .map a) hv h
  all_goals trivial
theorem Bd.mono (hv : ∀ b, V b → V' b) {v : Value} (h : Bd V v) : Bd V' v := by
  cases v
  case tuple cs => exact fun x hx => Bd2.mono hv (h x hx)
  case agg cs => exact Bd2.mono (v := .agg cs) hv h
  case func fn f c => exact Bd2.mono (v := .func fn f c) hv h
  case pointer a => exact Bd2.mono (v := .pointer a) hv h
  case slice a n c => exact Bd2.mono (v := .slice a n c) hv h
  case map a => exact Bd2.mono (v := .map a) hv h
  all_goals trivial

/-! flat values -/
theorem ren0_flat {v : Value} (h : flat0 v = true) : ren0 ρ v = v := by
  cases v
  case pointer a => cases a with | none => rfl | some a => simp [flat0] at h
  case slice a n c => cases a with | none => rfl | some a => simp [flat0] at h
  case map a => cases a with | none => rfl | some a => simp [flat0] at h
  all_goals rfl
theorem ren1_flat {v : Value} (h : flat0 v = true) : ren1 ρ v = v := by
  cases v
  case func fn f c =>
    simp only [flat0, Bool.and_eq_true, beq_iff_eq] at h
    obtain ⟨h1, h2⟩ := h
    obtain rfl := Array.eq_empty_of_size_eq_zero h1
    obtain rfl := Array.eq_empty_of_size_eq_zero h2
    simp [ren1]
  case pointer a => exact ren0_flat (v := .pointer a) h
  case slice a n c => exact ren0_flat (v := .slice a n c) h
  case map a => exact ren0_flat (v := .map a) h
  all_goals rfl
theorem ren2_flat {v : Value} (h : flat2 v = true) : ren2 ρ v = v := by
  cases v
  case agg cs =>
    simp only [ren2]
    rw [amap_id]
    intro x hx
    simp only [flat2, Array.all_eq_true] at h
    obtain ⟨i, hi, rfl⟩ := Array.mem_iff_getElem.1 hx
    exact ren1_flat (h i hi)
  case func fn f c => exact ren1_flat (v := .func fn f c) h
  case pointer a => exact ren1_flat (v := .pointer a) h
  case slice a n c => exact ren1_flat (v := .slice a n c) h
  case map a => exact ren1_flat (v := .map a) h
  all_goals rfl
theorem ren_flat {v : Value} (h : flat v = true) : ren ρ v = v := by
  cases v
  case tuple cs =>
    simp only [ren]
    rw [amap_id]
    intro x hx
    simp only [flat, Array.all_eq_true] at h
    obtain ⟨i, hi, rfl⟩ := Array.mem_iff_getElem.1 hx
    exact ren2_flat (h i hi)
  case agg cs => exact ren2_flat (v := .agg cs) h
  case func fn f c => exact ren2_flat (v := .func fn f c) h
  case pointer a => exact ren2_flat (v := .pointer a) h
  case slice a n c => exact ren2_flat (v := .slice a n c) h
  case map a => exact ren2_flat (v := .map a) h
  all_goals rfl
theorem Bd0_flat {v : Value} (h : flat0 v = true) : Bd0 V v := by
  cases v
  case pointer a => cases a with | none => trivial | some a => simp [flat0] at h
  case slice a n c => cases a with | none => trivial | some a => simp [flat0] at h
  case map a => cases a with | none => trivial | some a => simp [flat0] at h
  all_goals trivial
theorem Bd1_flat {v : Value} (h : flat0 v = true) : Bd1 V v := by
  cases v
  case func fn f c =>
    simp only [flat0, Bool.and_eq_true, beq_iff_eq] at h
    obtain ⟨h1, h2⟩ := h
    obtain rfl := Array.eq_empty_of_size_eq_zero h1
    obtain rfl := Array.eq_empty_of_size_eq_zero h2
    exact ⟨fun x hx => by simp at hx, fun x hx => by simp at hx⟩
  case pointer a => exact Bd0_flat (v := .pointer a) h
  case slice a n c => exact Bd0_flat (v := .slice a n c) h
  case map a => exact Bd0_flat (v := .map a) h
  all_goals trivial
theorem Bd2_flat {v : Value} (h : flat2 v = true) : Bd2 V v := by
  cases v
  case agg cs =>
    intro x hx
    simp only [flat2, Array.all_eq_true] at h
    obtain ⟨i, hi, rfl⟩ := Array.mem_iff_getElem.1 hx
    exact Bd1_flat (h i hi)
  case func fn f c => exact Bd1_flat (v := .func fn f c) h
  case pointer a => exact Bd1_flat (v := .pointer a) h
  case slice a n c => exact Bd1_flat (v := .slice a n c) h
  case map a => exact Bd1_flat (v := .map a) h
  all_goals trivial
theorem Bd_flat {v : Value} (h : flat v = true) : Bd V v := by
  cases v
  case tuple cs =>
    intro x hx
    simp only [flat, Array.all_eq_true] at h
    obtain ⟨i, hi, rfl⟩ := Array.mem_iff_getElem.1 hx
    exact Bd2_flat (h i hi)
  case agg cs => exact Bd2_flat (v := .agg cs) h
  case func fn f c => exact Bd2_flat (v := .func fn f c) h
  case pointer a => exact Bd2_flat (v := .pointer a) h
  case slice a n c => exact Bd2_flat (v := .slice a n c) h
  case map a => exact Bd2_flat (v := .map a) h
  all_goals trivial
/-! values of one cell -/
theorem ren_one {v : Value} (h : one v = true) : ren ρ v = ren1 ρ v := by
  cases v
  case agg cs => simp [one] at h
  case tuple cs => simp [one] at h
  all_goals rfl
theorem one_ren {v : Value} (h : one v = true) : (ren1 ρ v).oneCell' = true := by
  cases v
  case agg cs => simp [one] at h
  case tuple cs => simp [one] at h
  all_goals rfl
theorem Bd_one {v : Value} (h : one v = true) (hb : Bd V v) : Bd1 V v := by
  cases v
  case agg cs => simp [one] at h
  case tuple cs => simp [one] at h
  all_goals exact hb
theorem cells_one {v : Value} (h : v.cells.all one = true) : (ren ρ v).cells = v.cells.map (ren1 ρ) := by
  cases v
  case tuple vs => simp [Value.cells, one] at h
  all_goals simp [Value.cells, ren, ren2, ren1, ren0]
theorem cells_bd {v : Value} (h : v.cells.all one = true) (hb : Bd V v) : ∀ x ∈ v.cells, Bd1 V x := by
  cases v
  case agg cs => exact hb
  case tuple vs => simp [Value.cells, one] at h
  all_goals (intro x hx; simp [Value.cells] at hx; subst hx; exact hb)
end

/-- What may stand in a cell. -/
structure Cl (V : Nat → Prop) (u : Value) : Prop where
  bd : Bd1 V u
  one : one u = true
theorem Cl.mono {V V' : Nat → Prop} (hv : ∀ b, V b → V' b) {u : Value} (h : Cl V u) : Cl V' u := ⟨h.bd.mono hv, h.one⟩
theorem one_flat {v : Value} (h : flat0 v = true) : one v = true := by
  cases v
  case func fn f c =>
    simp only [flat0, Bool.and_eq_true, beq_iff_eq] at h
    obtain ⟨h1, h2⟩ := h
    obtain rfl := Array.eq_empty_of_size_eq_zero h1
    obtain rfl := Array.eq_empty_of_size_eq_zero h2
    simp [one]
  all_goals first | rfl | simp [flat0] at h
theorem Bd0.and {V W : Nat → Prop} {v : Value} (h : Bd0 V v) (k : Bd0 W v) : Bd0 (fun b => V b ∧ W b) v := by
  cases v
  case pointer a => cases a with | none => trivial | some a => exact ⟨h, k⟩
  case slice a m c => cases a with | none => trivial | some a => exact ⟨h, k⟩
  case map a => cases a with | none => trivial | some a => exact ⟨h, k⟩
  all_goals trivial
theorem Cl_flat {V : Nat → Prop} {v : Value} (h : flat0 v = true) : Cl V v := ⟨Bd1_flat h, one_flat h⟩

/-! ### the relation -/
def renE (ρ : Ren) (e : MapEntry) : MapEntry := { e with val := ren2 ρ e.val }
structure CellsAt (ρ : Ren) (w : World) (b : Nat) (cs : Array Value) (z : Nat) : Prop where
  obj : ∃ c ty fr, w.heap[ρ.β b]? = some (.cells c ty fr)
  cell : ∀ j u, cs[j]? = some u → w.cell? ⟨ρ.β b, ρ.δ b + j, none⟩ = some (ren1 ρ u)
  free : ∀ j, j < cs.size + ρ.ξ b * z → (w.cell? ⟨ρ.β b, ρ.δ b + j, none⟩).isSome = true ∧ w.frozen? ⟨ρ.β b, ρ.δ b + j, none⟩ = false
structure Sim (ρ : Ren) (V : Nat → Prop) (H : Hp) (w : World) : Prop where
  fresh : ∀ b, H.size ≤ b → H.tr.get b = none
  mlt : ∀ b, H.hid b = true → b < H.size
  bound : ∀ b, V b → b < H.size
  vis : ∀ b o, H.get b = some o → V b
  blk : ∀ b cs z, V b → H.tr.get b = some (.cells cs z) → CellsAt ρ w b cs z ∧ ∀ u ∈ cs, Cl V u
  map : ∀ b es ck, V b → H.tr.get b = some (.map es ck) → w.heap[ρ.β b]? = some (.map (es.map (renE ρ)) ck) ∧ ∀ e ∈ es, Bd2 V e.val ∧ flat e.key = true
  inj : ∀ b c o o', V b → V c → H.tr.get b = some o → H.tr.get c = some o' → ρ.β b = ρ.β c → b = c
def Img (ρ : Ren) (V : Nat → Prop) (H : Hp) (c : Nat) : Prop := ∃ b o, V b ∧ H.get b = some o ∧ ρ.β b = c
structure Fr (ρ : Ren) (V : Nat → Prop) (H : Hp) (w : World) (ρ' : Ren) (V' : Nat → Prop) (H' : Hp) (w' : World) : Prop where
  os : w'.os = w.os
  tape : w'.tape = w.tape
  output : w'.output = w.output
  size : w.heap.size ≤ w'.heap.size
  blk : ∀ c, c < w.heap.size → ¬ Img ρ V H c → w'.heap[c]? = w.heap[c]?
  img : ∀ c, Img ρ' V' H' c → Img ρ V H c ∨ w.heap.size ≤ c
def grow (V : Nat → Prop) (n m : Nat) : Nat → Prop := fun b => V b ∨ (n ≤ b ∧ b < m)
theorem grow_self (V : Nat → Prop) (n : Nat) : grow V n n = V := by funext b; unfold grow; ext1; constructor; rintro (h | h); exact h; omega; exact .inl
theorem grow_grow (V : Nat → Prop) {n m k : Nat} (h : n ≤ m) (h' : m ≤ k) : grow (grow V n m) m k = grow V n k := by
  funext b; unfold grow; ext1; constructor
  · rintro ((h | h) | h)
    · exact .inl h
    · exact .inr (by omega)
    · exact .inr (by omega)
  · rintro (h | h)
    · exact .inl (.inl h)
    · by_cases hb : b < m
      · exact .inl (.inr (by omega))
      · exact .inr (by omega)
theorem grow_le {V : Nat → Prop} {n m : Nat} : ∀ b, V b → grow V n m b := fun _ h => .inl h
structure Post (ρ : Ren) (V : Nat → Prop) (H : Hp) (w : World) (ρ' : Ren) (H' : Hp) (w' : World) : Prop where
  ext : Ext V ρ ρ'
  sim : Sim ρ' (grow V H.size H'.size) H' w'
  fr : Fr ρ V H w ρ' (grow V H.size H'.size) H' w'
structure Grew (H H' : Hp) : Prop where
  size : H.size ≤ H'.size
  msk : H'.msk = H.msk
  low : H'.low ≤ H.low
  kept : ∀ b, b < H.size → b < H'.low → H'.tr.get b = H.tr.get b
  dead : ∀ b, b < H.size → H.tr.get b = none → H'.tr.get b = none
  hid : ∀ b, b < H.size → H.hid b = true → H'.tr.get b = H.tr.get b
  fresh : (∀ b, H.size ≤ b → H.tr.get b = none) → ∀ b, H'.size ≤ b → H'.tr.get b = none
theorem Grew.refl (H : Hp) : Grew H H := ⟨Nat.le_refl _, rfl, Nat.le_refl _, fun _ _ _ => rfl, fun _ _ h => h, fun _ _ _ => rfl, fun h => h⟩
theorem Grew.trans {a b c : Hp} (h : Grew a b) (k : Grew b c) : Grew a c :=
  ⟨Nat.le_trans h.size k.size, k.msk.trans h.msk, Nat.le_trans k.low h.low, fun i hi hl => (k.kept i (Nat.lt_of_lt_of_le hi h.size) hl).trans (h.kept i hi (Nat.lt_of_lt_of_le hl k.low)),
    fun i hi hn => k.dead i (Nat.lt_of_lt_of_le hi h.size) (h.dead i hi hn), fun i hi hn => (k.hid i (Nat.lt_of_lt_of_le hi h.size) (by unfold Hp.hid at hn ⊢; rw [h.msk]; exact hn)).trans (h.hid i hi hn), fun hf => k.fresh (h.fresh hf)⟩

theorem Fr.refl (ρ : Ren) (V : Nat → Prop) (H : Hp) (w : World) : Fr ρ V H w ρ V H w := ⟨rfl, rfl, rfl, Nat.le_refl _, fun _ _ _ => rfl, fun _ h => .inl h⟩
theorem Fr.trans {ρ ρ' ρ'' : Ren} {V V' V'' : Nat → Prop} {H H' H'' : Hp} {w w' w'' : World} (h : Fr ρ V H w ρ' V' H' w') (k : Fr ρ' V' H' w' ρ'' V'' H'' w'') : Fr ρ V H w ρ'' V'' H'' w'' :=
  ⟨k.os.trans h.os, k.tape.trans h.tape, k.output.trans h.output, Nat.le_trans h.size k.size,
    fun c hc hi => (k.blk c (Nat.lt_of_lt_of_le hc h.size) fun hn => by rcases h.img c hn with h1 | h1; exact hi h1; omega).trans (h.blk c hc hi),
    fun c hc => by
      rcases k.img c hc with h1 | h1
      · exact h.img c h1
      · exact .inr (Nat.le_trans h.size h1)⟩
theorem Post.refl {ρ : Ren} {V : Nat → Prop} {H : Hp} {w : World} (h : Sim ρ V H w) : Post ρ V H w ρ H w := ⟨Ext.refl _ _, by rw [grow_self]; exact h, by rw [grow_self]; exact Fr.refl _ _ _ _⟩
theorem Post.trans {ρ ρ' ρ'' : Ren} {V : Nat → Prop} {H H' H'' : Hp} {w w' w'' : World} (g : H.size ≤ H'.size) (g' : H'.size ≤ H''.size)
    (h : Post ρ V H w ρ' H' w') (k : Post ρ' (grow V H.size H'.size) H' w' ρ'' H'' w'') : Post ρ V H w ρ'' H'' w'' := by
  obtain ⟨k1, k2, k3⟩ := k
  rw [grow_grow V g g'] at k2 k3
  exact ⟨h.ext.trans grow_le k1, k2, h.fr.trans k3⟩
end Go.Ab
