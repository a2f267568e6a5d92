/- Regions that draw: one operation more. -/
import Derived.Test.YtihcpmebabkagaaGreatAb20
set_option linter.unusedSimpArgs false
set_option linter.unusedVariables false
namespace Go.Ab
theorem Holds.nil {ρ : Ren} {V : Nat → Prop} {w : World} (ℓ : Loc) : Holds ρ V w ℓ none := by cases ℓ <;> trivial
theorem Holds.mono {ρ : Ren} {V V' : Nat → Prop} {w : World} {ℓ : Loc} {x : Option (Value ⊕ Shape)} (h : Holds ρ V w ℓ x) (hv : ∀ b, V b → V' b) : Holds ρ V' w ℓ x := h.move (Ext.refl _ _) hv rfl rfl rfl rfl
/-- What holds now, with the names that bounded it. -/
theorem Holds.both {ρ ρ' : Ren} {V V' : Nat → Prop} {w w' : World} {ℓ : Loc} {x : Option (Value ⊕ Shape)} (h : Holds ρ' V' w' ℓ x) (k : Holds ρ V w ℓ x) : Holds ρ' V w' ℓ x := by
  cases ℓ with
  | cell b j =>
    match x, h, k with
    | none, _, _ => trivial
    | some (.inr _), _, _ => trivial
    | some (.inl u), h, k => exact ⟨h.1, k.2⟩
  | shp b =>
    match x, h, k with
    | none, _, _ => trivial
    | some (.inl _), _, _ => trivial
    | some (.inr (.row n z)), h, k => exact h
    | some (.inr (.map es ck)), h, k => exact ⟨h.1, k.2⟩
section
variable {P : Program} {call : CallT} {ops : Array Oper} {T : Nat → Array Value} {G : Nat → Hp} {F : Nat → Foot} {ρ0 ρ : Ren} {V0 : Nat → Prop} {w0 w : World} {S : Nat → Prop} {a : Act} {k : Nat}

theorem lv_live' {H : Hp} {b : Nat} {o : Blk} (h : H.tr.get b = some o) : lv H (.shp b) ≠ none := by
  simp only [lv, h]
  cases o <;> simp
/-- A place that k touches, as it stands. -/
theorem Inv.holdsAt (hI : Inv ops T G ρ0 V0 w0 S ρ a w) (R : Reg P call ops T G F) (hk : Ready ops S k) {ℓ : Loc} (hp : PS V0 G S k ℓ.blk) (ht : Touch (F k) ℓ) : Holds ρ (PS V0 G S k) w ℓ (lv (G k) ℓ) := by
  obtain ⟨m, h1, h2, h3⟩ := hI.loc ℓ hp.1
  have hs := Stage.ready R hI.shut hk hp.2 ht
  have hle := Min.le R h1.le h2 hs
  rw [← Stage.unique R h1 hs]
  exact h3.mono fun b hb => ⟨hb.1, Nat.lt_of_lt_of_le hb.2 (R.mono hle (Nat.le_of_lt hk.lt))⟩
/-- What k may see is there. -/
theorem Inv.visAt (hI : Inv ops T G ρ0 V0 w0 S ρ a w) (R : Reg P call ops T G F) (hk : Ready ops S k) {b : Nat} {o : Blk} (hg : (G k).tr.get b = some o) (h0 : (G 0).hid b = false) (hm : ((masks ((Region.before ops).getD k 0) 0 (dids G F k)).any fun m => m.1 ≤ b && b < m.2) = false) : PS V0 G S k b := by
  have hlt : b < (G k).size := by
    rcases Nat.lt_or_ge b (G k).size with h | h
    · exact h
    · rw [R.fresh (Nat.le_of_lt hk.lt) b h] at hg; cases hg
  refine ⟨?_, hlt⟩
  have key : ∀ j, j ≤ k → b < (G j).size → (∃ o, (G j).tr.get b = some o) → Pres V0 G S b := by
    intro j
    induction j with
    | zero =>
      rintro _ hb ⟨o, ho⟩
      exact .inl (hI.vis0 b o (by rw [Hp.get_eq, h0]; exact ho))
    | succ j ih =>
      rintro hj hb ⟨o, ho⟩
      have hjn : j < ops.size := by have := hk.lt; omega
      by_cases hbj : b < (G j).size
      · refine ih (by omega) hbj ?_
        cases hgj : (G j).tr.get b with
        | none => rw [(R.step hjn).1.dead b hbj hgj] at ho; cases ho
        | some o' => exact ⟨o', rfl⟩
      · refine .inr ⟨j, hk.all j ?_, by omega, hb⟩
        refine Classical.byContradiction fun hn => ?_
        rw [masks_spec _ 0 j _ (dids_get (by omega)) (by rw [Nat.zero_add]; simpa [Wt] using hn) (show (G j).size ≤ b by omega) hb] at hm
        cases hm
  exact key k (Nat.le_refl _) hlt ⟨o, hg⟩
theorem masks_conv {bk c : Nat} : ∀ (l : List Did) (i0 : Nat), ((masks bk i0 l).any fun m => m.1 ≤ c && c < m.2) = true → ∃ d ∈ l, d.lo ≤ c ∧ c < d.hi
  | [], i0, h => by simp [masks] at h
  | x :: l, i0, h => by
    simp only [masks] at h
    split at h
    · rw [List.any_cons, Bool.or_eq_true] at h
      rcases h with h | h
      · refine ⟨x, by simp, ?_⟩
        simpa using h
      · obtain ⟨d, hd, h⟩ := masks_conv l (i0 + 1) h
        exact ⟨d, by simp [hd], h⟩
    · obtain ⟨d, hd, h⟩ := masks_conv l (i0 + 1) h
      exact ⟨d, by simp [hd], h⟩
def setN (ρ ρ1 : Ren) (n m : Nat) : Ren := ⟨fun b => if n ≤ b ∧ b < m then ρ1.β b else ρ.β b, fun b => if n ≤ b ∧ b < m then ρ1.δ b else ρ.δ b, fun b => if n ≤ b ∧ b < m then ρ1.ξ b else ρ.ξ b⟩
theorem setN_out {ρ ρ1 : Ren} {n m b : Nat} (h : ¬ (n ≤ b ∧ b < m)) : (setN ρ ρ1 n m).β b = ρ.β b ∧ (setN ρ ρ1 n m).δ b = ρ.δ b ∧ (setN ρ ρ1 n m).ξ b = ρ.ξ b := by simp only [setN, if_neg h]; exact ⟨trivial, trivial, trivial⟩
theorem setN_in {ρ ρ1 : Ren} {n m b : Nat} (h : n ≤ b ∧ b < m) : (setN ρ ρ1 n m).β b = ρ1.β b ∧ (setN ρ ρ1 n m).δ b = ρ1.δ b ∧ (setN ρ ρ1 n m).ξ b = ρ1.ξ b := by simp only [setN, if_pos h]; exact ⟨trivial, trivial, trivial⟩
theorem putT_get (tm : Array Value) (d : Option Tmp) (v : Value) (t : Nat) : (putT tm d v)[t]? = if d = some t then (tm[t]?).map (fun _ => v) else tm[t]? := by
  cases d with
  | none => simp [putT]
  | some d =>
    simp only [putT, Option.some.injEq]
    by_cases h : d = t
    · subst h
      rw [if_pos rfl, Array.getElem?_setIfInBounds_self]
      by_cases hl : d < tm.size
      · rw [if_pos hl, Array.getElem?_eq_getElem hl]; rfl
      · rw [if_neg hl, Array.getElem?_eq_none (Nat.le_of_not_lt hl)]; rfl
    · rw [if_neg h, Array.getElem?_setIfInBounds_ne h]
theorem put_get (a : Act) (d : Option Tmp) (v : Value) (t : Nat) : (a.put d v).tmps[t]? = if d = some t then (a.tmps[t]?).map (fun _ => v) else a.tmps[t]? := by
  have := putT_get a.tmps d v t
  cases d <;> exact this
theorem map_ren {x : Option Value} {f g : Value → Value} (h : ∀ u, x = some u → g u = f u) : x.map f = x.map g := by
  cases x with
  | none => rfl
  | some u => rw [Option.map_some, Option.map_some, h u rfl]
theorem map_const {x y : Option Value} (h : x.isSome = y.isSome) (u : Value) : x.map (fun _ => u) = y.map (fun _ => u) := by
  cases x <;> cases y <;> simp_all
theorem get_same {xs ys : Array Value} (h : xs.size = ys.size) (t : Nat) : (xs[t]?).isSome = (ys[t]?).isSome := by
  by_cases hl : t < xs.size
  · rw [Array.getElem?_eq_getElem hl, Array.getElem?_eq_getElem (h ▸ hl)]; rfl
  · rw [Array.getElem?_eq_none (Nat.le_of_not_lt hl), Array.getElem?_eq_none (by rw [← h]; exact Nat.le_of_not_lt hl)]
/-- The temporaries behind k. -/
theorem Inv.tmp1 (hI : Inv ops T G ρ0 V0 w0 S ρ a w) (R : Reg P call ops T G F) (hk : Ready ops S k) {o : Oper} (ho : ops[k]? = some o) {v : Value} (hT : T (k + 1) = putT (T k) o.dst v) (hsz : ∀ i, i ≤ ops.size → (T i).size = (T 0).size) {ρ2 : Ren} (hext : Ext (Pres V0 G S) ρ ρ2) (hb : Bd (PS V0 G (And1 S k) (k + 1)) v) :
    ∀ t, ∃ m, TStage ops (And1 S k) m t ∧ (a.put o.dst (ren ρ2 v)).tmps[t]? = ((T m)[t]?).map (ren ρ2) ∧ ∀ u, (T m)[t]? = some u → Bd (PS V0 G (And1 S k) m) u := by
  intro t
  obtain ⟨m, h1, h2, h3⟩ := hI.tmp t
  by_cases hd : o.dst = some t
  · refine ⟨k + 1, TStage.chg R hI.shut hk ho hd, ?_, ?_⟩
    · rw [put_get, if_pos hd, hT, putT_get, if_pos hd, h2, Option.map_map, Option.map_map]
      exact map_const (get_same ((hsz m h1.le).trans (hsz k (Nat.le_of_lt hk.lt)).symm) t) (ren ρ2 v)
    · intro u hu
      rw [hT, putT_get, if_pos hd] at hu
      obtain ⟨_, _, rfl⟩ := Option.map_eq_some_iff.1 hu
      exact hb
  · have hd' : dstOf ops k ≠ some t := by
      unfold dstOf
      rw [ho]
      exact hd
    refine ⟨m, h1.and1 hd', ?_, fun u hu => (h3 u hu).mono fun b hb => hb.and1⟩
    have e1 : (a.put o.dst (ren ρ2 v)).tmps[t]? = a.tmps[t]? := by rw [put_get, if_neg hd]
    have e2 : ∀ u, (T m)[t]? = some u → ren ρ2 u = ren ρ u := fun u hu => ren_ext (V := PS V0 G S m) (fun b hb => hext b hb.1) (h3 u hu)
    exact e1.trans (h2.trans (map_ren e2))
theorem size1 (R : Reg P call ops T G F) (hk : Ready ops S k) : (G k).size ≤ (G (k + 1)).size := R.mono (Nat.le_succ k) hk.lt
/-- A place that reads as something lies in a block that is alive. -/
theorem live_stage (R : Reg P call ops T G F) (hS : Shut ops S) {ℓ : Loc} {m m' : Nat} (h : Stage ops G S m ℓ) (h' : Stage ops G S m' (.shp ℓ.blk)) (hl : lv (G m) ℓ ≠ none) : lv (G m') (.shp ℓ.blk) ≠ none := by
  have hal : lv (G m) (.shp ℓ.blk) ≠ none := fun hn => hl (lv_dead hn)
  intro hd
  by_cases hle : m ≤ m'
  · -- the operation at which it died
    have hex : ∃ i, m ≤ i ∧ i < m' ∧ lv (G i) (.shp ℓ.blk) ≠ none ∧ lv (G (i + 1)) (.shp ℓ.blk) = none := by
      have key : ∀ d, m + d ≤ m' → lv (G (m + d)) (.shp ℓ.blk) = none → ∃ i, m ≤ i ∧ i < m + d ∧ lv (G i) (.shp ℓ.blk) ≠ none ∧ lv (G (i + 1)) (.shp ℓ.blk) = none := by
        intro d
        induction d with
        | zero => intro _ hn; exact absurd hn hal
        | succ d ih =>
          intro hdm hn
          by_cases hz : lv (G (m + d)) (.shp ℓ.blk) = none
          · obtain ⟨i, g1, g2, g3⟩ := ih (by omega) hz
            exact ⟨i, g1, by omega, g3⟩
          · exact ⟨m + d, by omega, by omega, hz, hn⟩
      obtain ⟨i, g1, g2, g3⟩ := key (m' - m) (by omega) (by rw [show m + (m' - m) = m' by omega]; exact hd)
      exact ⟨i, g1, by omega, g3⟩
    obtain ⟨i, hi1, hi2, hi3, hi4⟩ := hex
    have hin : i < ops.size := by have := h'.le; omega
    have hbi : ℓ.blk < (G i).size := Nat.lt_of_lt_of_le h.blk (R.mono hi1 (by omega))
    have hci : Chg' G i (.shp ℓ.blk) := by unfold Chg'; rw [hi4]; exact hi3
    have hSi : S i := (h'.iff i hin hbi hci).2 hi2
    have hF : F i = .loud true := by
      rcases R.chg (ℓ := .shp ℓ.blk) hin hbi hci with h9 | ⟨_, _, _, _, _, h9, _⟩
      · exact h9
      · cases h9
    have hno : ∀ j, m ≤ j → j < i → ¬ Chg' G j ℓ := by
      intro j hj1 hj2 hcj
      have hjn : j < ops.size := by omega
      have hbj : ℓ.blk < (G j).size := Nat.lt_of_lt_of_le h.blk (R.mono hj1 (by omega))
      have hSj : ¬ S j := fun hs => by have := (h.iff j hjn hbj hcj).1 hs; omega
      have hw : ¬ Wt ops i j := fun hw => hSj (hS.shut i hSi j hw)
      have hcl := (R.step hin).2.2.1 j hj2 hw
      have := (clash_of_chg (g := F i) (R.chg hjn hbj hcj) (by rw [hF]; trivial)).1
      rw [this] at hcl
      cases hcl
    have he := lv_between R hi1 (by omega) h.blk hno
    have hc : Chg' G i ℓ := by
      unfold Chg'
      rw [lv_dead hi4, ← he]
      exact hl
    have := (h.iff i hin hbi hc).1 hSi
    omega
  · have key : ∀ d, m' + d ≤ ops.size → lv (G (m' + d)) (.shp ℓ.blk) = none := by
      intro d
      induction d with
      | zero => intro _; exact hd
      | succ d ih =>
        intro hdn
        have hz := ih (by omega)
        have hb : ℓ.blk < (G (m' + d)).size := Nat.lt_of_lt_of_le h'.blk (R.mono (Nat.le_add_right _ _) (by omega))
        simp only [lv] at hz ⊢
        cases hg : (G (m' + d)).tr.get ℓ.blk with
        | none => rw [← Nat.add_assoc, (R.step (k := m' + d) (by omega)).1.dead _ hb hg]
        | some o => rw [hg] at hz; cases o <;> cases hz
    have := key (m - m') (by have := h.le; omega)
    rw [show m' + (m - m') = m by omega] at this
    exact hal this
/-- k ran on a part of the memory: what is new is as it says; what was there, too, where k touches all; else it is as it was. -/
theorem inv_run (R : Reg P call ops T G F) (hI : Inv ops T G ρ0 V0 w0 S ρ a w) (hk : Ready ops S k) {o : Oper} (ho : ops[k]? = some o) (hsz : ∀ i, i ≤ ops.size → (T i).size = (T 0).size) (hm0 : ∀ b, (G 0).hid b = true → b < (G 0).size)
    {Hk Hk' : Hp} {ρ1 : Ren} {w1 : World} {v : Value} (hs1 : Hk.size = (G k).size) (hs2 : Hk'.size = (G (k + 1)).size) (hpost : Post ρ (PS V0 G S k) Hk w ρ1 Hk' w1) (hv : Bd (grow (PS V0 G S k) (G k).size (G (k + 1)).size) v) (hT : T (k + 1) = putT (T k) o.dst v)
    (hnew : ∀ ℓ : Loc, (G k).size ≤ ℓ.blk → ℓ.blk < (G (k + 1)).size → lv Hk' ℓ = lv (G (k + 1)) ℓ)
    (hvis : ∀ b o, Hk.get b = some o → PS V0 G S k b ∧ (G 0).hid b = false ∧ (G k).tr.get b = some o ∧ ∀ ℓ, Touch (F k) ℓ)
    (hhid : ∀ b, (G k).size ≤ b → Hk'.hid b = false)
    (hold : (∀ ℓ : Loc, ℓ.blk < (G k).size → Touch (F k) ℓ ∧ lv Hk' ℓ = lv (G (k + 1)) ℓ) ∨ ((∀ b, Hk.get b = none) ∧ ∀ ℓ : Loc, ℓ.blk < (G k).size → ¬ Chg' G k ℓ)) :
    Inv ops T G ρ0 V0 w0 (And1 S k) (setN ρ ρ1 (G k).size (G (k + 1)).size) (a.put o.dst (ren (setN ρ ρ1 (G k).size (G (k + 1)).size) v)) w1 := by
  have hle := size1 R hk
  have hpn : ∀ b, Pres V0 G S b → ¬ ((G k).size ≤ b ∧ b < (G (k + 1)).size) := fun b hb => pres_new R hI hk.lt hk.not hb
  obtain ⟨ρ2, hρ2⟩ : ∃ ρ2, ρ2 = setN ρ ρ1 (G k).size (G (k + 1)).size := ⟨_, rfl⟩
  have hext : Ext (Pres V0 G S) ρ ρ2 := fun b hb => by rw [hρ2]; exact setN_out (hpn b hb)
  have hext1 : Ext (grow (PS V0 G S k) (G k).size (G (k + 1)).size) ρ1 ρ2 := by
    rintro b (hb | hb)
    · obtain ⟨e1, e2, e3⟩ := hpost.ext b hb
      obtain ⟨f1, f2, f3⟩ := hext b hb.1
      exact ⟨f1.trans e1.symm, f2.trans e2.symm, f3.trans e3.symm⟩
    · rw [hρ2]; exact setN_in hb
  have hsim := hpost.sim
  have hfr := hpost.fr
  rw [hs1, hs2] at hsim hfr
  have hgrow : ∀ b, grow (PS V0 G S k) (G k).size (G (k + 1)).size b → PS V0 G (And1 S k) (k + 1) b := by
    rintro b (hb | hb)
    · exact ⟨Pres.and1.2 (.inl hb.1), Nat.lt_of_lt_of_le hb.2 hle⟩
    · exact ⟨Pres.and1.2 (.inr hb), hb.2⟩
  have himg : ∀ c, Img ρ (PS V0 G S k) Hk c → (∀ ℓ, Touch (F k) ℓ) ∧ ∃ b0 o0, PS V0 G S k b0 ∧ (G 0).hid b0 = false ∧ (G k).tr.get b0 = some o0 ∧ ρ.β b0 = c := by
    rintro c ⟨b0, o0, hp, hg, rfl⟩
    obtain ⟨_, h2, h3, h4⟩ := hvis b0 o0 hg
    exact ⟨h4, b0, o0, hp, h2, h3, rfl⟩
  -- the stage of an old block that is alive behind k
  have hlive : ∀ b m, Pres V0 G S b → Stage ops G (And1 S k) m (.shp b) → lv (G m) (.shp b) ≠ none → ∃ m0, Stage ops G S m0 (.shp b) ∧ lv (G m0) (.shp b) ≠ none := by
    intro b m hb hst hl
    by_cases hc : b < (G k).size ∧ Chg' G k (.shp b)
    · obtain ⟨hbk, hc⟩ := hc
      have ht : Touch (F k) (.shp b) := by
        rcases R.chg (ℓ := .shp b) hk.lt hbk hc with h | ⟨c, lo, hi, j, _, h, _⟩
        · rw [h]; trivial
        · cases h
      refine ⟨k, Stage.ready R hI.shut hk hbk ht, fun hn => hl ?_⟩
      rw [Stage.unique R hst (Stage.chg R hI.shut hk hbk ht)]
      simp only [lv] at hn ⊢
      cases hg : (G k).tr.get b with
      | none => rw [(R.step hk.lt).1.dead b hbk hg]
      | some o' => rw [hg] at hn; cases o' <;> cases hn
    · exact ⟨m, Stage.of_and1 hst (fun h1 h2 => hc ⟨h1, h2⟩), hl⟩
  -- an old block that k does not see is as it was
  have hfar : ∀ b m, Pres V0 G S b → Stage ops G S m (.shp b) → lv (G m) (.shp b) ≠ none → ((∀ b, Hk.get b = none) ∨ (G k).size ≤ b) → w1.heap[ρ.β b]? = w.heap[ρ.β b]? := by
    intro b m hb hst hl hor
    refine hfr.blk _ (live_lt hI R hb hst hl) fun hi => ?_
    rcases hor with hn | hn
    · obtain ⟨b0, o0, _, hg, _⟩ := hi
      rw [hn] at hg; cases hg
    · obtain ⟨ht, b0, o0, hp, _, hg, he⟩ := himg _ hi
      have := hI.inj b0 b k m hp.1 hb (Stage.ready R hI.shut hk hp.2 (ht _)) hst (lv_live' hg) hl he
      have := hp.2
      omega
  rw [← hρ2]
  refine ⟨hI.shut.and1 hk, fun b hb => ?_, hI.v0, hI.vis0, ?_, ?_, ?_, ?_, hfr.os.trans hI.os, hfr.tape.trans hI.tape, hfr.output.trans hI.output, Nat.le_trans hI.size hfr.size, ?_, ?_⟩
  · obtain ⟨e1, e2, e3⟩ := hI.ext b hb
    obtain ⟨f1, f2, f3⟩ := hext b (.inl hb)
    exact ⟨f1.trans e1, f2.trans e2, f3.trans e3⟩
  · cases o.dst <;> exact hI.defers
  · exact hI.tmp1 R hk ho hT hsz hext (hv.mono hgrow)
  · intro ℓ hp
    by_cases hbn : (G k).size ≤ ℓ.blk ∧ ℓ.blk < (G (k + 1)).size
    · refine ⟨k + 1, Stage.born R hI.shut hk hbn.1 hbn.2, .inr ⟨k, rfl, .inr rfl, .inr hbn.1⟩, ?_⟩
      have h := Holds.of_sim hsim ℓ (.inr hbn)
      rw [hnew ℓ hbn.1 hbn.2] at h
      obtain ⟨e1, e2, e3⟩ := hext1 ℓ.blk (.inr hbn)
      exact h.move hext1 hgrow e1 e2 e3 rfl
    · have hp' : Pres V0 G S ℓ.blk := (Pres.and1.1 hp).resolve_right hbn
      obtain ⟨m, h1, h2, h3⟩ := hI.loc ℓ hp'
      have hmin : Min G (And1 S k) m ℓ := h2.imp id fun ⟨p, hp, hs, h⟩ => ⟨p, hp, .inl hs, h⟩
      obtain ⟨f1, f2, f3⟩ := hext ℓ.blk hp'
      have keep : ((∀ b, Hk.get b = none) ∨ (G k).size ≤ ℓ.blk) → (ℓ.blk < (G k).size → ¬ Chg' G k ℓ) → ∃ m, Stage ops G (And1 S k) m ℓ ∧ Min G (And1 S k) m ℓ ∧ Holds ρ2 (PS V0 G (And1 S k) m) w1 ℓ (lv (G m) ℓ) := by
        intro hor hc
        refine ⟨m, h1.and1 hc, hmin, ?_⟩
        by_cases hl : lv (G m) ℓ = none
        · rw [hl]; exact Holds.nil ℓ
        · obtain ⟨m', g1, g2, g3⟩ := hI.loc (.shp ℓ.blk) hp'
          exact h3.move (fun b hb => hext b hb.1) (fun b hb => hb.and1) f1 f2 f3 (hfar ℓ.blk m' hp' g1 (live_stage R hI.shut h1 g1 hl) hor)
      rcases hold with hold | ⟨hn, hold⟩
      · by_cases hbk : ℓ.blk < (G k).size
        · obtain ⟨ht, hlv⟩ := hold ℓ hbk
          have h := Holds.of_sim hsim ℓ (.inl ⟨hp', hbk⟩)
          rw [hlv] at h
          obtain ⟨e1, e2, e3⟩ := hext1 ℓ.blk (.inl ⟨hp', hbk⟩)
          have h := h.move hext1 hgrow e1 e2 e3 rfl
          by_cases hc : Chg' G k ℓ
          · exact ⟨k + 1, Stage.chg R hI.shut hk hbk ht, .inr ⟨k, rfl, .inr rfl, .inl ⟨hc, hbk⟩⟩, h⟩
          · have e : lv (G m) ℓ = lv (G (k + 1)) ℓ := (Stage.unique R h1 (Stage.ready R hI.shut hk hbk ht)).trans (Classical.byContradiction hc)
            refine ⟨m, h1.and1 (fun _ => hc), hmin, ?_⟩
            rw [← e] at h
            exact (h.both h3).mono fun b hb => hb.and1
        · exact keep (.inr (by omega)) (fun h => absurd h hbk)
      · exact keep (.inl hn) (fun h => hold ℓ h)
  · -- no two blocks in one place
    have hnn : ∀ b m, (G k).size ≤ b ∧ b < (G (k + 1)).size → Stage ops G (And1 S k) m (.shp b) → lv (G m) (.shp b) ≠ none → ∃ o', Hk'.tr.get b = some o' := by
      intro b m hb hst hl
      rw [Stage.unique R hst (Stage.born (ℓ := .shp b) R hI.shut hk hb.1 hb.2), ← hnew (.shp b) hb.1 hb.2] at hl
      exact lv_live hl
    have hno : ∀ b c m m', (G k).size ≤ b ∧ b < (G (k + 1)).size → Pres V0 G S c → Stage ops G (And1 S k) m (.shp b) → Stage ops G (And1 S k) m' (.shp c) → lv (G m) (.shp b) ≠ none → lv (G m') (.shp c) ≠ none → ρ1.β b ≠ ρ.β c := by
      intro b c m m' hb hc hst hst' hl hl' he
      obtain ⟨o', ho'⟩ := hnn b m hb hst hl
      obtain ⟨m0, s1, s2⟩ := hlive c m' hc hst' hl'
      have hcl := live_lt hI R hc s1 s2
      have hvb : Hk'.get b = some o' := by rw [Hp.get_eq, hhid b hb.1]; exact ho'
      rcases hfr.img (ρ1.β b) ⟨b, o', .inr hb, hvb, rfl⟩ with h | h
      · obtain ⟨ht, b0, o0, hp, h0, hg, he0⟩ := himg _ h
        have hcb : b0 = c := hI.inj b0 c k m0 hp.1 hc (Stage.ready R hI.shut hk hp.2 (ht _)) s1 (lv_live' hg) s2 (he0.trans he)
        subst hcb
        rcases hold with hold | ⟨hn, _⟩
        · obtain ⟨ht', hlv⟩ := hold (.shp b0) hp.2
          have hl2 := hl'
          rw [Stage.unique R hst' (Stage.chg R hI.shut hk hp.2 ht'), ← hlv] at hl2
          obtain ⟨o2, ho2⟩ := lv_live hl2
          have := hsim.inj b b0 o' o2 (.inr hb) (.inl hp) ho' ho2 (by rw [(hpost.ext b0 hp).1]; exact he)
          have := hp.2
          omega
        · obtain ⟨b1, o1, _, hg1, _⟩ := h
          rw [hn] at hg1; cases hg1
      · omega
    intro b c m m' hb hc hst hst' hl hl' he
    rcases Pres.and1.1 hb with hb' | hb' <;> rcases Pres.and1.1 hc with hc' | hc'
    · obtain ⟨m0, s1, s2⟩ := hlive b m hb' hst hl
      obtain ⟨m1, t1, t2⟩ := hlive c m' hc' hst' hl'
      rw [(hext b hb').1, (hext c hc').1] at he
      exact hI.inj b c m0 m1 hb' hc' s1 t1 s2 t2 he
    · rw [(hext b hb').1, (hext1 c (.inr hc')).1] at he
      exact absurd he.symm (hno c b m' m hc' hb' hst' hst hl' hl)
    · rw [(hext1 b (.inr hb')).1, (hext c hc').1] at he
      exact absurd he (hno b c m m' hb' hc' hst hst' hl hl')
    · obtain ⟨o1, ho1⟩ := hnn b m hb' hst hl
      obtain ⟨o2, ho2⟩ := hnn c m' hc' hst' hl'
      rw [(hext1 b (.inr hb')).1, (hext1 c (.inr hc')).1] at he
      exact hsim.inj b c o1 o2 (.inr hb') (.inr hc') ho1 ho2 he
  · intro c hc hi
    rw [hfr.blk c (Nat.lt_of_lt_of_le hc hI.size) fun hi' => ?_]
    · exact hI.blk c hc hi
    · obtain ⟨ht, b0, o0, hp, h0, hg, rfl⟩ := himg _ hi'
      rcases hI.img b0 k hp.1 h0 (Stage.ready R hI.shut hk hp.2 (ht _)) (lv_live' hg) with h | h
      · exact hi h
      · omega
  · intro b m hb hhb hst hl
    rcases Pres.and1.1 hb with hb' | hb'
    · obtain ⟨m0, s1, s2⟩ := hlive b m hb' hst hl
      rw [(hext b hb').1]
      exact hI.img b m0 hb' hhb s1 s2
    · rw [Stage.unique R hst (Stage.born (ℓ := .shp b) R hI.shut hk hb'.1 hb'.2), ← hnew (.shp b) hb'.1 hb'.2] at hl
      obtain ⟨o', ho'⟩ := lv_live hl
      rw [(hext1 b (.inr hb')).1]
      have hvb : Hk'.get b = some o' := by rw [Hp.get_eq, hhid b hb'.1]; exact ho'
      rcases hfr.img (ρ1.β b) ⟨b, o', .inr hb', hvb, rfl⟩ with h | h
      · obtain ⟨ht, b0, o0, hp, h0, hg, he0⟩ := himg _ h
        rw [← he0]
        exact hI.img b0 k hp.1 h0 (Stage.ready R hI.shut hk hp.2 (ht _)) (lv_live' hg)
      · exact .inr (Nat.le_trans hI.size h)
end
end Go.Ab
