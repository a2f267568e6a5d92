/- Regions that draw: what holds behind any part of the operations. -/
import Derived.Test.YtihcpmebabkagaaGreatAb19
set_option linter.unusedSimpArgs false
set_option linter.unusedVariables false
namespace Go.Ab
def dstOf (ops : Array Oper) (i : Nat) : Option Tmp := (ops[i]?).bind (·.dst)
structure TStage (ops : Array Oper) (S : Nat → Prop) (m t : Nat) : Prop where
  le : m ≤ ops.size
  iff : ∀ i, i < ops.size → dstOf ops i = some t → (S i ↔ i < m)
  min : m = 0 ∨ ∃ p, m = p + 1 ∧ S p ∧ dstOf ops p = some t
def Pres (V0 : Nat → Prop) (G : Nat → Hp) (S : Nat → Prop) (b : Nat) : Prop := V0 b ∨ ∃ i, S i ∧ (G i).size ≤ b ∧ b < (G (i + 1)).size
def PS (V0 : Nat → Prop) (G : Nat → Hp) (S : Nat → Prop) (m b : Nat) : Prop := Pres V0 G S b ∧ b < (G m).size
structure Inv (ops : Array Oper) (T : Nat → Array Value) (G : Nat → Hp) (ρ0 : Ren) (V0 : Nat → Prop) (w0 : World) (S : Nat → Prop) (ρ : Ren) (a : Act) (w : World) : Prop where
  shut : Shut ops S
  ext : Ext V0 ρ0 ρ
  v0 : ∀ b, V0 b → b < (G 0).size
  vis0 : ∀ b o, (G 0).get b = some o → V0 b
  defers : a.defers = []
  tmp : ∀ t, ∃ m, TStage ops S m t ∧ a.tmps[t]? = ((T m)[t]?).map (ren ρ) ∧ ∀ v, (T m)[t]? = some v → Bd (PS V0 G S m) v
  loc : ∀ ℓ, Pres V0 G S ℓ.blk → ∃ m, Stage ops G S m ℓ ∧ Min G S m ℓ ∧ Holds ρ (PS V0 G S m) w ℓ (lv (G m) ℓ)
  inj : ∀ b c m m', Pres V0 G S b → Pres V0 G S c → Stage ops G S m (.shp b) → Stage ops G S m' (.shp c) → lv (G m) (.shp b) ≠ none → lv (G m') (.shp c) ≠ none → ρ.β b = ρ.β c → b = c
  os : w.os = w0.os
  tape : w.tape = w0.tape
  output : w.output = w0.output
  size : w0.heap.size ≤ w.heap.size
  blk : ∀ c, c < w0.heap.size → ¬ Img ρ0 V0 (G 0) c → w.heap[c]? = w0.heap[c]?
  img : ∀ b m, Pres V0 G S b → (G 0).hid b = false → Stage ops G S m (.shp b) → lv (G m) (.shp b) ≠ none → Img ρ0 V0 (G 0) (ρ.β b) ∨ w0.heap.size ≤ ρ.β b
section
variable {P : Program} {call : CallT} {ops : Array Oper} {T : Nat → Array Value} {G : Nat → Hp} {F : Nat → Foot} {ρ0 ρ : Ren} {V0 : Nat → Prop} {w0 w : World} {S : Nat → Prop} {a : Act} {k : Nat}

theorem pres_lt (R : Reg P call ops T G F) (hI : Inv ops T G ρ0 V0 w0 S ρ a w) {b : Nat} (h : Pres V0 G S b) : ∃ m, m ≤ ops.size ∧ b < (G m).size := by
  rcases h with h | ⟨i, hi, h1, h2⟩
  · exact ⟨0, Nat.zero_le _, hI.v0 b h⟩
  · exact ⟨i + 1, hI.shut.lt i hi, h2⟩
/-- The new names of one operation are none of the others'. -/
theorem pres_new (R : Reg P call ops T G F) (hI : Inv ops T G ρ0 V0 w0 S ρ a w) (hk : k < ops.size) (hn : ¬ S k) {b : Nat} (h : Pres V0 G S b) : ¬ ((G k).size ≤ b ∧ b < (G (k + 1)).size) := by
  rintro ⟨g1, g2⟩
  rcases h with h | ⟨i, hi, h1, h2⟩
  · have := hI.v0 b h
    have := R.mono (Nat.zero_le k) (Nat.le_of_lt hk)
    omega
  · have hil := hI.shut.lt i hi
    rcases Nat.lt_trichotomy i k with h | h | h
    · have := R.mono (i := i + 1) (j := k) (by omega) (by omega)
      omega
    · subst h; exact hn hi
    · have := R.mono (i := k + 1) (j := i) (by omega) (by omega)
      omega
theorem live_lt (hI : Inv ops T G ρ0 V0 w0 S ρ a w) (R : Reg P call ops T G F) {b m : Nat} (hb : Pres V0 G S b) (hs : Stage ops G S m (.shp b)) (hl : lv (G m) (.shp b) ≠ none) : ρ.β b < w.heap.size := by
  obtain ⟨m', h1, h2, h3⟩ := hI.loc (.shp b) hb
  have e := Stage.unique R hs h1
  rw [← e] at h3
  cases hg : lv (G m) (.shp b) with
  | none => exact absurd hg hl
  | some x =>
    rw [hg] at h3
    cases x with
    | inl v =>
      simp only [lv] at hg
      cases hg2 : (G m).tr.get b with
      | none => rw [hg2] at hg; cases hg
      | some o => rw [hg2] at hg; cases o <;> cases hg
    | inr s =>
      cases s with
      | row n z =>
        obtain ⟨⟨c, ty, fr, hc⟩, _⟩ := h3
        exact (Array.getElem?_eq_some_iff.1 hc).1
      | map es ck => exact (Array.getElem?_eq_some_iff.1 h3.1).1
/-- Of the operations that write a temporary which k names, those that ran are those ahead of k. -/
theorem Inv.ordered (hS : Shut ops S) (R : Reg P call ops T G F) (hk : Ready ops S k) {o : Oper} (ho : ops[k]? = some o) {t : Nat} (ht : t ∈ o.looksAt ops ∨ o.dst = some t) :
    ∀ i, i < ops.size → i ≠ k → dstOf ops i = some t → (S i ↔ i < k) := by
  have hap := R.ok
  unfold drawOk at hap
  rw [Bool.and_eq_true] at hap
  have before : ∀ i, i < k → dstOf ops i = some t → Wt ops k i := by
    intro i hi hd
    obtain ⟨x, hx⟩ : ∃ x, ops[i]? = some x := by cases hx : ops[i]? with | none => simp [dstOf, hx] at hd | some x => exact ⟨x, rfl⟩
    have hxd : x.dst = some t := by simpa [dstOf, hx] using hd
    rcases apartAll_spec ops.toList [] hap.1 k o (by simpa using ho) i x (by simpa using hx) (by simpa using hi) with h | h
    · simpa [Wt] using h
    · rcases ht with ht | ht
      · exact absurd ht ((Oper.apart_spec h).1 t hxd)
      · exact absurd ht ((Oper.apart_spec h).2.1 t hxd)
  have behind : ∀ i, k < i → i < ops.size → dstOf ops i = some t → Wt ops i k := by
    intro i hi hin hd
    obtain ⟨x, hx⟩ : ∃ x, ops[i]? = some x := by cases hx : ops[i]? with | none => simp [dstOf, hx] at hd | some x => exact ⟨x, rfl⟩
    have hxd : x.dst = some t := by simpa [dstOf, hx] using hd
    rcases apartAll_spec ops.toList [] hap.1 i x (by simpa using hx) k o (by simpa using ho) (by simpa using hi) with h | h
    · simpa [Wt] using h
    · rcases ht with ht | ht
      · exact absurd ht ((Oper.apart_spec h).2.2 t hxd)
      · exact absurd hxd ((Oper.apart_spec h).2.1 t ht)
  intro i hin hne hd
  constructor
  · intro hSi
    rcases Nat.lt_or_ge i k with h | h
    · exact h
    · exact absurd (hS.shut i hSi k (behind i (by omega) hin hd)) hk.not
  · intro h
    exact hk.all i (before i h hd)
/-- The operands of one that may run. -/
theorem Inv.tmpAt (hI : Inv ops T G ρ0 V0 w0 S ρ a w) (R : Reg P call ops T G F) (hk : Ready ops S k) {o : Oper} (ho : ops[k]? = some o) (hT : ∀ i, i < ops.size → ∀ t, dstOf ops i ≠ some t → (T (i + 1))[t]? = (T i)[t]?) {t : Nat} (ht : t ∈ o.looksAt ops) :
    a.tmps[t]? = ((T k)[t]?).map (ren ρ) ∧ ∀ v, (T k)[t]? = some v → Bd (PS V0 G S k) v := by
  obtain ⟨m, hm, h1, h2⟩ := hI.tmp t
  have hiff := Inv.ordered hI.shut R hk ho (.inl ht)
  have between : ∀ {p q : Nat}, p ≤ q → q ≤ ops.size → (∀ i, p ≤ i → i < q → dstOf ops i ≠ some t) → (T q)[t]? = (T p)[t]? := by
    intro p q hpq hq h
    induction q with
    | zero => have : p = 0 := by omega
              subst this; rfl
    | succ q ih =>
      by_cases he : p = q + 1
      · subst he; rfl
      · rw [hT q (by omega) t (h q (by omega) (by omega)), ih (by omega) (by omega) fun i h1 h2 => h i h1 (by omega)]
  have hmk : m ≤ k := by
    rcases hm.min with rfl | ⟨p, rfl, hp, hd⟩
    · omega
    · have hpn := hI.shut.lt p hp
      by_cases hpk : p = k
      · subst hpk; exact absurd hp hk.not
      · have := (hiff p hpn hpk hd).1 hp
        omega
  have he : (T k)[t]? = (T m)[t]? := by
    refine between hmk (Nat.le_of_lt hk.lt) fun i h1 h2 hd => ?_
    have hin : i < ops.size := by have := hk.lt; omega
    have := (hm.iff i hin hd).1 ((hiff i hin (by omega) hd).2 h2)
    omega
  rw [he]
  refine ⟨h1, fun v hv => (h2 v hv).mono fun b hb => ⟨hb.1, Nat.lt_of_lt_of_le hb.2 (R.mono hmk (Nat.le_of_lt hk.lt))⟩⟩
/-! ### one operation more -/
def And1 (S : Nat → Prop) (k : Nat) : Nat → Prop := fun i => S i ∨ i = k
theorem Shut.and1 (hS : Shut ops S) (hk : Ready ops S k) : Shut ops (And1 S k) := by
  refine ⟨fun i hi => ?_, fun i hi j hj => ?_⟩
  · rcases hi with hi | rfl
    · exact hS.lt i hi
    · exact hk.lt
  · rcases hi with hi | rfl
    · exact .inl (hS.shut i hi j hj)
    · exact .inl (hk.all j hj)
theorem Pres.and1 {b : Nat} : Pres V0 G (And1 S k) b ↔ Pres V0 G S b ∨ ((G k).size ≤ b ∧ b < (G (k + 1)).size) := by
  constructor
  · rintro (h | ⟨i, hi | rfl, h1, h2⟩)
    · exact .inl (.inl h)
    · exact .inl (.inr ⟨i, hi, h1, h2⟩)
    · exact .inr ⟨h1, h2⟩
  · rintro ((h | ⟨i, hi, h1, h2⟩) | h)
    · exact .inl h
    · exact .inr ⟨i, .inl hi, h1, h2⟩
    · exact .inr ⟨k, .inr rfl, h⟩
theorem PS.and1 {m b : Nat} (h : PS V0 G S m b) : PS V0 G (And1 S k) m b := ⟨Pres.and1.2 (.inl h.1), h.2⟩
/-- A place that k leaves alone. -/
theorem Stage.and1 {m : Nat} {ℓ : Loc} (h : Stage ops G S m ℓ) (hc : ℓ.blk < (G k).size → ¬ Chg' G k ℓ) : Stage ops G (And1 S k) m ℓ := by
  refine ⟨h.le, h.blk, fun i hi hb hci => ?_⟩
  have hne : i ≠ k := by rintro rfl; exact hc hb hci
  rw [← h.iff i hi hb hci]
  exact ⟨fun h => h.resolve_right hne, .inl⟩
theorem Stage.of_and1 {m : Nat} {ℓ : Loc} (h : Stage ops G (And1 S k) m ℓ) (hc : ℓ.blk < (G k).size → ¬ Chg' G k ℓ) : Stage ops G S m ℓ := by
  refine ⟨h.le, h.blk, fun i hi hb hci => ?_⟩
  have hne : i ≠ k := by rintro rfl; exact hc hb hci
  rw [← h.iff i hi hb hci]
  exact ⟨.inl, fun h => h.resolve_right hne⟩
/-- A place that k changes: its stage is behind k. -/
theorem Stage.chg (R : Reg P call ops T G F) (hS : Shut ops S) (hk : Ready ops S k) {ℓ : Loc} (hb : ℓ.blk < (G k).size) (ht : Touch (F k) ℓ) : Stage ops G (And1 S k) (k + 1) ℓ := by
  have hs := Stage.ready R hS hk hb ht
  refine ⟨hk.lt, Nat.lt_of_lt_of_le hb (R.mono (Nat.le_succ k) hk.lt), fun i hi hbi hci => ?_⟩
  have e := hs.iff i hi hbi hci
  constructor
  · rintro (h | rfl)
    · have := e.1 h; omega
    · omega
  · intro h
    by_cases hik : i = k
    · exact .inr hik
    · exact .inl (e.2 (by omega))
/-- A place that is new with k. -/
theorem Stage.born (R : Reg P call ops T G F) (hS : Shut ops S) (hk : Ready ops S k) {ℓ : Loc} (h1 : (G k).size ≤ ℓ.blk) (h2 : ℓ.blk < (G (k + 1)).size) : Stage ops G (And1 S k) (k + 1) ℓ := by
  refine ⟨hk.lt, h2, fun i hi hbi hci => ?_⟩
  have hik : k < i := by
    rcases Nat.lt_or_ge k i with h | h
    · exact h
    · have := R.mono h (Nat.le_of_lt hk.lt); omega
  constructor
  · rintro (h | rfl)
    · have hn : ¬ Wt ops i k := fun hw => hk.not (hS.shut i h k hw)
      exact absurd (lv_congr ((R.step hi).2.2.2 k ℓ.blk hik hn h1 h2 hbi)).symm hci
    · omega
  · intro h; omega
theorem TStage.and1 {m t : Nat} (h : TStage ops S m t) (hd : dstOf ops k ≠ some t) : TStage ops (And1 S k) m t := by
  refine ⟨h.le, fun i hi hdi => ?_, h.min.imp id fun ⟨p, hp, hs, hdp⟩ => ⟨p, hp, .inl hs, hdp⟩⟩
  have hne : i ≠ k := by rintro rfl; exact hd hdi
  rw [← h.iff i hi hdi]
  exact ⟨fun h => h.resolve_right hne, .inl⟩
theorem TStage.chg (R : Reg P call ops T G F) (hS : Shut ops S) (hk : Ready ops S k) {o : Oper} (ho : ops[k]? = some o) {t : Nat} (hd : o.dst = some t) : TStage ops (And1 S k) (k + 1) t := by
  refine ⟨hk.lt, fun i hi hdi => ?_, .inr ⟨k, rfl, .inr rfl, by simp [dstOf, ho, hd]⟩⟩
  by_cases hik : i = k
  · subst hik; exact ⟨fun _ => by omega, fun _ => .inr rfl⟩
  · have := Inv.ordered hS R hk ho (.inr hd) i hi hik hdi
    constructor
    · rintro (h | h)
      · have := this.1 h; omega
      · exact absurd h hik
    · intro h
      exact .inl (this.2 (by omega))
end
end Go.Ab
