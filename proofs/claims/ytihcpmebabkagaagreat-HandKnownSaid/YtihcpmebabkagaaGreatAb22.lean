/- Regions that draw: each kind of operation. -/
import Derived.Test.YtihcpmebabkagaaGreatAb21
set_option linter.unusedSimpArgs false
set_option linter.unusedVariables false
namespace Go.Ab
section
variable {P : Program} {call : CallT} {ops : Array Oper} {T : Nat → Array Value} {G : Nat → Hp} {F : Nat → Foot} {ρ0 ρ : Ren} {V0 : Nat → Prop} {w0 w : World} {S : Nat → Prop} {a : Act} {k : Nat}

theorem stepOp_tm {H H' : Hp} {tm tm' : Array Value} {o : Oper} (h : stepOp P call tm H o = some (tm', H')) : ∃ v, tm' = putT tm o.dst v := by
  unfold stepOp at h
  split at h
  · injection h with h; injection h with h1 h2; exact ⟨_, h1.symm⟩
  · obtain ⟨r, _, hr⟩ := Option.map_eq_some_iff.1 h
    injection hr with h1 h2; exact ⟨_, h1.symm⟩
  · cases h
theorem drawStep_tm {H H' : Hp} {tm tm' : Array Value} {o : Oper} {ms : List (Nat × Nat)} {f : Foot} (h : drawStep P call tm H ms o = some (tm', H', f)) : ∃ v, tm' = putT tm o.dst v := by
  unfold drawStep at h
  split at h
  · split at h
    · split at h
      · injection h with h; injection h with h1 h2; exact ⟨_, h1.symm⟩
      · split at h
        · injection h with h; injection h with h1 h2; exact ⟨_, h1.symm⟩
        · cases h
    · cases h
  · split at h
    · split at h
      · split at h
        · injection h with h; injection h with h1 h2; exact ⟨_, h1.symm⟩
        · cases h
      · cases h
    · split at h
      · split at h
        · injection h with h; injection h with h1 h2; exact ⟨_, h1.symm⟩
        · cases h
      · cases h
    · split at h
      · rename_i tm1 H1 hs
        injection h with h; injection h with h1 h2; subst h1
        exact stepOp_tm hs
      · cases h
theorem Reg.tm (R : Reg P call ops T G F) {i : Nat} {o : Oper} (ho : ops[i]? = some o) : ∃ v, T (i + 1) = putT (T i) o.dst v := by
  have hat := R.at_ i o ho
  cases hw : Region.wanted o (yielded ops (T i)) with
  | true => exact drawStep_tm (hat.run hw).1
  | false => exact ⟨_, (hat.skip hw).1⟩
theorem putT_size (tm : Array Value) (d : Option Tmp) (v : Value) : (putT tm d v).size = tm.size := by cases d <;> simp [putT]
theorem Reg.sz (R : Reg P call ops T G F) : ∀ i, i ≤ ops.size → (T i).size = (T 0).size := by
  intro i
  induction i with
  | zero => intro _; rfl
  | succ i ih =>
    intro hi
    obtain ⟨v, hv⟩ := R.tm (i := i) (o := ops[i]) (by simp [show i < ops.size by omega])
    rw [hv, putT_size, ih (by omega)]
theorem Reg.same (R : Reg P call ops T G F) : ∀ i, i < ops.size → ∀ t, dstOf ops i ≠ some t → (T (i + 1))[t]? = (T i)[t]? := by
  intro i hi t ht
  obtain ⟨v, hv⟩ := R.tm (i := i) (o := ops[i]) (by simp [hi])
  rw [hv, putT_get, if_neg]
  simpa [dstOf, hi] using ht
theorem look_tmp {o : Oper} {t : Nat} (h : Operand.tmp t ∈ o.op.operands) : t ∈ o.looksAt ops := by
  unfold Oper.looksAt
  rw [List.mem_append]
  exact .inl (List.mem_filterMap.2 ⟨.tmp t, Array.mem_def.1 h, rfl⟩)
theorem Inv.eval (hI : Inv ops T G ρ0 V0 w0 S ρ a w) (R : Reg P call ops T G F) (hk : Ready ops S k) {o : Oper} (ho : ops[k]? = some o) (hop : o.op.operands.all operOk = true) : ∀ x ∈ o.op.operands, a.eval x = ren ρ (evalT (T k) x) ∧ Bd (PS V0 G S k) (evalT (T k) x) := by
  intro x hx
  cases x with
  | tmp t =>
    obtain ⟨h1, h2⟩ := hI.tmpAt R hk ho R.same (look_tmp hx)
    simp only [Act.eval, evalT, Array.getD_eq_getD_getElem?, h1]
    cases ht : (T k)[t]? with
    | none => exact ⟨(ren_undef ρ).symm, fun x hx => by simp [undef] at hx⟩
    | some v => exact ⟨rfl, h2 v ht⟩
  | const v =>
    have : operOk (.const v) = true := by
      simp only [Array.all_eq_true] at hop
      obtain ⟨i, hi, he⟩ := Array.mem_iff_getElem.1 hx
      rw [← he]; exact hop i hi
    exact ⟨(ren_flat this).symm, Bd_flat this⟩
  | global g =>
    simp only [Array.all_eq_true] at hop
    obtain ⟨i, hi, he⟩ := Array.mem_iff_getElem.1 hx
    have := hop i hi
    rw [he] at this
    cases this
  | func f => exact ⟨by simp [Act.eval, evalT, ren, ren2, ren1], fun x hx => by simp at hx, fun x hx => by simp at hx⟩
theorem Inv.wanted (hI : Inv ops T G ρ0 V0 w0 S ρ a w) (R : Reg P call ops T G F) (hk : Ready ops S k) {o : Oper} (ho : ops[k]? = some o) : Region.wanted o (yielded ops a.tmps) = Region.wanted o (yielded ops (T k)) := by
  unfold Region.wanted
  cases hg : o.guard with
  | none => rfl
  | some g =>
    obtain ⟨j, want⟩ := g
    simp only
    congr 1
    unfold yielded
    cases hd : (ops[j]?).bind (·.dst) with
    | none => rfl
    | some t =>
      have ht : t ∈ o.looksAt ops := by
        unfold Oper.looksAt
        rw [List.mem_append]
        right
        rw [hg]
        simp [hd]
      obtain ⟨h1, _⟩ := hI.tmpAt R hk ho R.same ht
      simp only [Option.bind_some, h1]
      cases (T k)[t]? with
      | none => rfl
      | some v => cases v <;> rfl
/-- An empty memory of that size. -/
def bare (n : Nat) : Hp := ⟨.e, n, [], n⟩
theorem bare_get (n b : Nat) : (bare n).get b = none := by
  rw [Hp.get_eq]; split
  · rfl
  · exact Tr.get_e b
theorem bare_tr (n b : Nat) : (bare n).tr.get b = none := Tr.get_e b
theorem sim_bare {V : Nat → Prop} {n : Nat} (hv : ∀ b, V b → b < n) (ρ : Ren) (w : World) : Sim ρ V (bare n) w := by
  refine ⟨fun b _ => Tr.get_e b, fun b hb => ?_, hv, fun b o h => ?_, fun b cs z _ h => ?_, fun b es ck _ h => ?_, fun b c o o' _ _ h => ?_⟩
  · simp [Hp.hid, bare] at hb
  · rw [bare_get] at h; cases h
  · rw [bare_tr] at h; cases h
  · rw [bare_tr] at h; cases h
  · rw [bare_tr] at h; cases h
/-- k only handed a value on. -/
theorem inv_value (R : Reg P call ops T G F) (hI : Inv ops T G ρ0 V0 w0 S ρ a w) (hk : Ready ops S k) {o : Oper} (ho : ops[k]? = some o) (hm0 : ∀ b, (G 0).hid b = true → b < (G 0).size) {v : Value} (hG : G (k + 1) = G k) (hv : Bd (PS V0 G S k) v) (hT : T (k + 1) = putT (T k) o.dst v) :
    ∃ ρ', Inv ops T G ρ0 V0 w0 (And1 S k) ρ' (a.put o.dst (ren ρ v)) w := by
  have hs := sim_bare (V := PS V0 G S k) (n := (G k).size) (fun b hb => hb.2) ρ w
  have h := inv_run R hI hk ho R.sz hm0 (Hk := bare (G k).size) (Hk' := bare (G k).size) (ρ1 := ρ) (w1 := w) (v := v) rfl (by rw [hG]; rfl) (Post.refl hs) (hv.mono grow_le) hT
    (fun ℓ h1 h2 => by rw [hG] at h2; omega) (fun b o h => by rw [bare_get] at h; cases h) (fun b _ => by simp [Hp.hid, bare]) (.inr ⟨fun b => bare_get _ b, fun ℓ _ hc => hc (by rw [hG])⟩)
  refine ⟨setN ρ ρ (G k).size (G (k + 1)).size, ?_⟩
  have e : ren (setN ρ ρ (G k).size (G (k + 1)).size) v = ren ρ v := ren_ext (V := PS V0 G S k) (fun b hb => setN_out (fun h => by rw [hG] at h; omega)) hv
  rw [e] at h
  exact h
/-- What k sees of the memory. -/
theorem Inv.sim (hI : Inv ops T G ρ0 V0 w0 S ρ a w) (R : Reg P call ops T G F) (hk : Ready ops S k) (hm0 : ∀ b, (G 0).hid b = true → b < (G 0).size) (ht : ∀ ℓ, Touch (F k) ℓ) (l : Nat) :
    Sim ρ (PS V0 G S k) { G k with msk := masks ((Region.before ops).getD k 0) 0 (dids G F k) ++ (G k).msk, low := l } w ∧
      ∀ b o, Hp.get { G k with msk := masks ((Region.before ops).getD k 0) 0 (dids G F k) ++ (G k).msk, low := l } b = some o → PS V0 G S k b ∧ (G 0).hid b = false ∧ (G k).tr.get b = some o ∧ ∀ ℓ, Touch (F k) ℓ := by
  have hkn := hk.lt
  have hvis : ∀ b o, Hp.get { G k with msk := masks ((Region.before ops).getD k 0) 0 (dids G F k) ++ (G k).msk, low := l } b = some o → PS V0 G S k b ∧ (G 0).hid b = false ∧ (G k).tr.get b = some o ∧ ∀ ℓ, Touch (F k) ℓ := by
    intro b o h
    obtain ⟨h1, h2⟩ := Hp.get_some h
    unfold Hp.hid at h1
    simp only [List.any_append, Bool.or_eq_false_iff] at h1
    have h0 : (G 0).hid b = false := by rw [← R.hid (Nat.le_of_lt hkn)]; exact h1.2
    exact ⟨hI.visAt R hk h2 h0 h1.1, h0, h2, ht⟩
  refine ⟨⟨R.fresh (Nat.le_of_lt hkn), fun b hb => ?_, fun b hb => hb.2, fun b o h => (hvis b o h).1, fun b cs z hb hg => ?_, fun b es ck hb hg => ?_, fun b c o o' hb hc h1 h2 he => ?_⟩, hvis⟩
  · unfold Hp.hid at hb
    simp only [List.any_append, Bool.or_eq_true] at hb
    rcases hb with hb | hb
    · obtain ⟨d, hd, h1, h2⟩ := masks_conv _ _ hb
      unfold dids at hd
      obtain ⟨i, hi, rfl⟩ := List.mem_map.1 hd
      rw [List.mem_range] at hi
      exact Nat.lt_of_lt_of_le h2 (R.mono hi (Nat.le_of_lt hkn))
    · have : (G 0).hid b = true := by rw [← R.hid (Nat.le_of_lt hkn)]; exact hb
      exact Nat.lt_of_lt_of_le (hm0 b this) (R.mono (Nat.zero_le k) (Nat.le_of_lt hkn))
  · have hg' : (G k).tr.get b = some (.cells cs z) := hg
    have hs := hI.holdsAt R hk (ℓ := .shp b) hb (ht _)
    have e : lv (G k) (.shp b) = some (.inr (.row cs.size z)) := by simp only [lv, hg']
    rw [e] at hs
    have hcell : ∀ j u, cs[j]? = some u → w.cell? ⟨ρ.β b, ρ.δ b + j, none⟩ = some (ren1 ρ u) ∧ Cl (PS V0 G S k) u := by
      intro j u hu
      have hc := hI.holdsAt R hk (ℓ := .cell b j) hb (ht _)
      have e : lv (G k) (.cell b j) = some (.inl u) := by simp only [lv, hg', hu, Option.map_some]
      rw [e] at hc
      exact hc
    refine ⟨⟨hs.1, fun j u hu => (hcell j u hu).1, hs.2⟩, fun u hu => ?_⟩
    obtain ⟨j, hj⟩ := Array.mem_iff_getElem?.1 hu
    exact (hcell j u hj).2
  · have hg' : (G k).tr.get b = some (.map es ck) := hg
    have hs := hI.holdsAt R hk (ℓ := .shp b) hb (ht _)
    have e : lv (G k) (.shp b) = some (.inr (.map es ck)) := by simp only [lv, hg']
    rw [e] at hs
    exact hs
  · have h1' : (G k).tr.get b = some o := h1
    have h2' : (G k).tr.get c = some o' := h2
    exact hI.inj b c k k hb.1 hc.1 (Stage.ready R hI.shut hk hb.2 (ht _)) (Stage.ready R hI.shut hk hc.2 (ht _)) (lv_live' h1') (lv_live' h2') he
end
end Go.Ab
