/- Regions that draw: places, stages. -/
import Derived.Test.YtihcpmebabkagaaGreatAb18
set_option linter.unusedSimpArgs false
set_option linter.unusedVariables false
namespace Go.Ab
inductive Shape where
  | row (n z : Nat)
  | map (es : Array MapEntry) (ck : Nat)
inductive Loc where
  | cell (b j : Nat)
  | shp (b : Nat)
def Loc.blk : Loc → Nat
  | .cell b _ => b
  | .shp b => b
def lv (H : Hp) : Loc → Option (Value ⊕ Shape)
  | .cell b j => match H.tr.get b with | some (.cells cs _) => (cs[j]?).map .inl | _ => none
  | .shp b => match H.tr.get b with | none => none | some (.cells cs z) => some (.inr (.row cs.size z)) | some (.map es ck) => some (.inr (.map es ck))
theorem lv_congr {H H' : Hp} {ℓ : Loc} (h : H'.tr.get ℓ.blk = H.tr.get ℓ.blk) : lv H' ℓ = lv H ℓ := by cases ℓ <;> simp only [lv, Loc.blk] at h ⊢ <;> rw [h]
theorem lv_dead {H : Hp} {ℓ : Loc} (h : lv H (.shp ℓ.blk) = none) : lv H ℓ = none := by
  cases ℓ with
  | shp b => exact h
  | cell b j =>
    simp only [lv, Loc.blk] at h ⊢
    cases hg : H.tr.get b with
    | none => rfl
    | some o => rw [hg] at h; cases o <;> cases h
theorem lv_live {H : Hp} {b : Nat} (h : lv H (.shp b) ≠ none) : ∃ o, H.tr.get b = some o := by
  simp only [lv] at h
  cases hg : H.tr.get b with
  | none => rw [hg] at h; exact absurd rfl h
  | some o => exact ⟨o, rfl⟩
def Holds (ρ : Ren) (V : Nat → Prop) (w : World) : Loc → Option (Value ⊕ Shape) → Prop
  | .cell b j, some (.inl u) => w.cell? ⟨ρ.β b, ρ.δ b + j, none⟩ = some (ren1 ρ u) ∧ Cl V u
  | .shp b, some (.inr (.row n z)) => (∃ c ty fr, w.heap[ρ.β b]? = some (.cells c ty fr)) ∧ ∀ j, j < n + ρ.ξ b * z → (w.cell? ⟨ρ.β b, ρ.δ b + j, none⟩).isSome = true ∧ w.frozen? ⟨ρ.β b, ρ.δ b + j, none⟩ = false
  | .shp b, some (.inr (.map es ck)) => w.heap[ρ.β b]? = some (.map (es.map (renE ρ)) ck) ∧ ∀ e ∈ es, Bd2 V e.val ∧ flat e.key = true
  | _, _ => True
theorem Holds.of_sim {ρ : Ren} {V : Nat → Prop} {H : Hp} {w : World} (h : Sim ρ V H w) (ℓ : Loc) (hv : V ℓ.blk) : Holds ρ V w ℓ (lv H ℓ) := by
  cases ℓ with
  | cell b j =>
    simp only [lv]
    cases hg : H.tr.get b with
    | none => trivial
    | some o =>
      cases o with
      | map es ck => trivial
      | cells cs z =>
        obtain ⟨h1, h2⟩ := h.blk b cs z hv hg
        simp only
        cases hj : cs[j]? with
        | none => trivial
        | some u => exact ⟨h1.cell j u hj, h2 u (Array.mem_of_getElem? hj)⟩
  | shp b =>
    simp only [lv]
    cases hg : H.tr.get b with
    | none => trivial
    | some o =>
      cases o with
      | map es ck => exact h.map b es ck hv hg
      | cells cs z =>
        obtain ⟨h1, h2⟩ := h.blk b cs z hv hg
        exact ⟨h1.obj, h1.free⟩
/-- Where the block is as it was, and the names that count are the same. -/
theorem Holds.move {ρ ρ' : Ren} {V V' : Nat → Prop} {w w' : World} {ℓ : Loc} {x : Option (Value ⊕ Shape)} (h : Holds ρ V w ℓ x) (hext : Ext V ρ ρ') (hv : ∀ b, V b → V' b)
    (h1 : ρ'.β ℓ.blk = ρ.β ℓ.blk) (h2 : ρ'.δ ℓ.blk = ρ.δ ℓ.blk) (h3 : ρ'.ξ ℓ.blk = ρ.ξ ℓ.blk) (hw : w'.heap[ρ.β ℓ.blk]? = w.heap[ρ.β ℓ.blk]?) : Holds ρ' V' w' ℓ x := by
  cases ℓ with
  | cell b j =>
    match x, h with
    | none, _ => trivial
    | some (.inr _), _ => trivial
    | some (.inl u), h =>
      simp only [Loc.blk] at h1 h2 hw
      refine ⟨?_, h.2.mono hv⟩
      rw [h1, h2, World.cell?_of_block (w := w) (by exact hw), ren1_ext hext h.2.bd]
      exact h.1
  | shp b =>
    match x, h with
    | none, _ => trivial
    | some (.inl _), _ => trivial
    | some (.inr (.row n z)), h =>
      simp only [Loc.blk] at h1 h2 h3 hw
      refine ⟨by rw [h1, hw]; exact h.1, fun j hj => ?_⟩
      rw [h1, h2, World.cell?_of_block (w := w) (by exact hw), frozen_of_block (w := w) (by exact hw)]
      exact h.2 j (by rw [h3] at hj; exact hj)
    | some (.inr (.map es ck)), h =>
      simp only [Loc.blk] at h1 hw
      refine ⟨?_, fun e he => ⟨(h.2 e he).1.mono hv, (h.2 e he).2⟩⟩
      rw [h1, hw, renE_ext hext h.2]
      exact h.1

structure Reg (P : Program) (call : CallT) (ops : Array Oper) (T : Nat → Array Value) (G : Nat → Hp) (F : Nat → Foot) : Prop where
  at_ : ∀ k o, ops[k]? = some o → TraceAt P call ops ((Region.before ops).getD k 0) (dids G F k) o (T k) (G k) (T (k + 1)) (G (k + 1)) (F k)
  grewc : GrewCall call
  ok : drawOk ops (Region.before ops) = true
  fresh0 : ∀ b, (G 0).size ≤ b → (G 0).tr.get b = none
section
variable {P : Program} {call : CallT} {ops : Array Oper} {T : Nat → Array Value} {G : Nat → Hp} {F : Nat → Foot}
/-- k waits for i -/
def Wt (ops : Array Oper) (k i : Nat) : Prop := ((Region.before ops).getD k 0).testBit i = true
theorem Reg.step (R : Reg P call ops T G F) {k : Nat} (hk : k < ops.size) : Grew (G k) (G (k + 1)) ∧ FootOk (G k) (G (k + 1)) (F k) ∧ (∀ i, i < k → ¬ Wt ops k i → (F i).clash (F k) = false) ∧
    ∀ i b, i < k → ¬ Wt ops k i → (G i).size ≤ b → b < (G (i + 1)).size → b < (G k).size → (G (k + 1)).tr.get b = (G k).tr.get b := by
  have hat := R.at_ k ops[k] (by simp [hk])
  cases hw : Region.wanted ops[k] (yielded ops (T k)) with
  | true =>
    obtain ⟨h1, h2⟩ := hat.run hw
    obtain ⟨g1, g2, g3⟩ := drawStep_grew R.grewc h1
    refine ⟨g1, g2, fun i hi hn => ?_, fun i b hi hn hb1 hb2 hb3 => g3 b hb3 ?_⟩
    · exact clash_spec _ 0 i _ h2 (dids_get hi) (by rw [Nat.zero_add]; simpa [Wt] using hn)
    · exact masks_spec _ 0 i _ (dids_get hi) (by rw [Nat.zero_add]; simpa [Wt] using hn) hb1 hb2
  | false =>
    obtain ⟨h1, h2, h3⟩ := hat.skip hw
    rw [h2, h3]
    refine ⟨Grew.refl _, fun _ _ => rfl, fun i hi hn => ?_, fun _ _ _ _ _ _ _ => rfl⟩
    cases F i <;> rfl
theorem Reg.mono (R : Reg P call ops T G F) {i j : Nat} (h : i ≤ j) (hj : j ≤ ops.size) : (G i).size ≤ (G j).size := by
  induction j with
  | zero => have : i = 0 := by omega
            subst this; exact Nat.le_refl _
  | succ j ih =>
    by_cases hij : i = j + 1
    · subst hij; exact Nat.le_refl _
    · exact Nat.le_trans (ih (by omega) (by omega)) (R.step (k := j) (by omega)).1.size
theorem Reg.msk (R : Reg P call ops T G F) {j : Nat} (hj : j ≤ ops.size) : (G j).msk = (G 0).msk := by
  induction j with
  | zero => rfl
  | succ j ih => exact (R.step (k := j) (by omega)).1.msk.trans (ih (by omega))
theorem Reg.hid (R : Reg P call ops T G F) {j : Nat} (hj : j ≤ ops.size) (b : Nat) : (G j).hid b = (G 0).hid b := by unfold Hp.hid; rw [R.msk hj]
theorem Reg.fresh (R : Reg P call ops T G F) {j : Nat} (hj : j ≤ ops.size) : ∀ b, (G j).size ≤ b → (G j).tr.get b = none := by
  induction j with
  | zero => exact R.fresh0
  | succ j ih => exact (R.step (k := j) (by omega)).1.fresh (ih (by omega))
def Chg' (G : Nat → Hp) (i : Nat) (ℓ : Loc) : Prop := lv (G i) ℓ ≠ lv (G (i + 1)) ℓ
/-- What an operation that changes a place is. -/
theorem Reg.chg (R : Reg P call ops T G F) {i : Nat} (hi : i < ops.size) {ℓ : Loc} (hb : ℓ.blk < (G i).size) (hc : Chg' G i ℓ) : F i = .loud true ∨ ∃ c lo hi j, F i = .st c lo hi ∧ ℓ = .cell c j ∧ lo ≤ j ∧ j < hi := by
  have hf := (R.step hi).2.1
  unfold FootOk at hf
  split at hf
  · exact absurd (lv_congr (hf _ hb)).symm hc
  · exact absurd (lv_congr (hf _ hb)).symm hc
  · exact absurd (lv_congr (hf _ hb)).symm hc
  · rename_i c lo hi' hF
    obtain ⟨h1, cs, z, cs', g1, g2, g3, g4⟩ := hf
    by_cases hbc : ℓ.blk = c
    · cases ℓ with
      | shp b =>
        simp only [Loc.blk] at hbc
        subst hbc
        refine absurd ?_ hc
        simp only [lv, g1, g2, g3]
      | cell b j =>
        simp only [Loc.blk] at hbc
        subst hbc
        by_cases hj : lo ≤ j ∧ j < hi'
        · exact .inr ⟨b, lo, hi', j, hF, rfl, hj⟩
        · refine absurd ?_ hc
          simp only [lv, g1, g2, g4 j hj]
    · exact absurd (lv_congr (h1 _ hb hbc)).symm hc
  · rename_i hF; exact .inl hF
/-- The places that an operation may read or write. -/
def Touch (f : Foot) (ℓ : Loc) : Prop :=
  match f, ℓ with
  | .loud _, _ => True
  | .ld c lo hi, .cell b j => c = b ∧ lo ≤ j ∧ j < hi
  | .ld c _ _, .shp b => c = b
  | .st c lo hi, .cell b j => c = b ∧ lo ≤ j ∧ j < hi
  | .st c _ _, .shp b => c = b
  | .still, _ => False
theorem clash_of_chg {f g : Foot} {ℓ : Loc} (hf : f = .loud true ∨ ∃ c lo hi j, f = .st c lo hi ∧ ℓ = .cell c j ∧ lo ≤ j ∧ j < hi) (hg : Touch g ℓ) : f.clash g = true ∧ g.clash f = true := by
  rcases hf with rfl | ⟨c, lo, hi, j, rfl, rfl, h1, h2⟩
  · cases g with
    | still => cases hg
    | ld c l h => exact ⟨rfl, rfl⟩
    | st c l h => exact ⟨rfl, rfl⟩
    | loud w => cases w <;> exact ⟨rfl, rfl⟩
  · cases g with
    | still => cases hg
    | ld c' l' h' =>
      obtain ⟨rfl, g1, g2⟩ := hg
      simp only [Foot.clash, beq_self_eq_true, Bool.true_and, Bool.and_eq_true, decide_eq_true_eq]
      omega
    | st c' l' h' =>
      obtain ⟨rfl, g1, g2⟩ := hg
      simp only [Foot.clash, beq_self_eq_true, Bool.true_and, Bool.and_eq_true, decide_eq_true_eq]
      omega
    | loud w => exact ⟨rfl, rfl⟩
/-! ### stages -/
structure Shut (ops : Array Oper) (S : Nat → Prop) : Prop where
  lt : ∀ k, S k → k < ops.size
  shut : ∀ k, S k → ∀ i, Wt ops k i → S i
structure Ready (ops : Array Oper) (S : Nat → Prop) (k : Nat) : Prop where
  lt : k < ops.size
  not : ¬ S k
  all : ∀ i, Wt ops k i → S i
structure Stage (ops : Array Oper) (G : Nat → Hp) (S : Nat → Prop) (m : Nat) (ℓ : Loc) : Prop where
  le : m ≤ ops.size
  blk : ℓ.blk < (G m).size
  iff : ∀ i, i < ops.size → ℓ.blk < (G i).size → Chg' G i ℓ → (S i ↔ i < m)
theorem lv_between (R : Reg P call ops T G F) {ℓ : Loc} {m m' : Nat} (hle : m ≤ m') (hm : m' ≤ ops.size) (hb : ℓ.blk < (G m).size) (h : ∀ i, m ≤ i → i < m' → ¬ Chg' G i ℓ) : lv (G m) ℓ = lv (G m') ℓ := by
  induction m' with
  | zero => have : m = 0 := by omega
            subst this; rfl
  | succ m' ih =>
    by_cases he : m = m' + 1
    · subst he; rfl
    · rw [ih (by omega) (by omega) fun i h1 h2 => h i h1 (by omega)]
      exact Classical.byContradiction fun hc => h m' (by omega) (by omega) hc
theorem Stage.unique (R : Reg P call ops T G F) {S : Nat → Prop} {m m' : Nat} {ℓ : Loc} (h : Stage ops G S m ℓ) (h' : Stage ops G S m' ℓ) : lv (G m) ℓ = lv (G m') ℓ := by
  have key : ∀ {m m' : Nat}, Stage ops G S m ℓ → Stage ops G S m' ℓ → m ≤ m' → lv (G m) ℓ = lv (G m') ℓ := by
    intro m m' h h' hle
    refine lv_between R hle h'.le h.blk fun i h1 h2 hc => ?_
    have hlt : i < ops.size := by have := h'.le; omega
    have hbi : ℓ.blk < (G i).size := Nat.lt_of_lt_of_le h.blk (R.mono h1 (by omega))
    have e1 := h.iff i hlt hbi hc
    have e2 := h'.iff i hlt hbi hc
    have := e1.1 (e2.2 h2)
    omega
  by_cases hle : m ≤ m'
  · exact key h h' hle
  · exact (key h' h (by omega)).symm
theorem Stage.ready (R : Reg P call ops T G F) {S : Nat → Prop} (hS : Shut ops S) {k : Nat} (hk : Ready ops S k) {ℓ : Loc} (hb : ℓ.blk < (G k).size) (ht : Touch (F k) ℓ) : Stage ops G S k ℓ := by
  refine ⟨Nat.le_of_lt hk.lt, hb, fun i hi hbi hc => ?_⟩
  have hch := R.chg hi hbi hc
  obtain ⟨c1, c2⟩ := clash_of_chg hch ht
  constructor
  · intro hSi
    rcases Nat.lt_trichotomy i k with h | h | h
    · exact h
    · subst h; exact absurd hSi hk.not
    · have hn : ¬ Wt ops i k := fun hw => hk.not (hS.shut i hSi k hw)
      rw [(R.step hi).2.2.1 k h hn] at c2
      cases c2
  · intro h
    by_cases hw : Wt ops k i
    · exact hk.all i hw
    · rw [(R.step hk.lt).2.2.1 i h hw] at c1
      cases c1
def Min (G : Nat → Hp) (S : Nat → Prop) (m : Nat) (ℓ : Loc) : Prop := m = 0 ∨ ∃ p, m = p + 1 ∧ S p ∧ (Chg' G p ℓ ∧ ℓ.blk < (G p).size ∨ (G p).size ≤ ℓ.blk)
theorem Min.le (R : Reg P call ops T G F) {S : Nat → Prop} {m k : Nat} {ℓ : Loc} (hm : m ≤ ops.size) (h : Min G S m ℓ) (hk : Stage ops G S k ℓ) : m ≤ k := by
  rcases h with rfl | ⟨p, rfl, hp, h⟩
  · omega
  · rcases h with ⟨h1, h2⟩ | h1
    · have := (hk.iff p (by omega) h2 h1).1 hp
      omega
    · rcases Nat.lt_or_ge p k with h2 | h2
      · omega
      · have := R.mono h2 (by omega)
        have := hk.blk
        omega
end
end Go.Ab
