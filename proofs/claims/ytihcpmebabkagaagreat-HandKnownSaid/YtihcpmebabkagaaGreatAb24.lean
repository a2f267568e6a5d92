/- Regions that draw: one step. -/
import Derived.Test.YtihcpmebabkagaaGreatAb23
set_option linter.unusedSimpArgs false
set_option linter.unusedVariables false
namespace Go.Ab
section
variable {P : Program} {call : CallT} {ops : Array Oper} {T : Nat → Array Value} {G : Nat → Hp} {F : Nat → Foot} {ρ0 ρ : Ren} {V0 : Nat → Prop} {w0 w : World} {S : Nat → Prop} {a : Act} {k : Nat}
theorem inv_run' (R : Reg P call ops T G F) (hI : Inv ops T G ρ0 V0 w0 S ρ a w) (hk : Ready ops S k) {o : Oper} (ho : ops[k]? = some o) (hm0 : ∀ b, (G 0).hid b = true → b < (G 0).size)
    {Hk Hk' : Hp} {ρ1 : Ren} {w1 : World} {v : Value} (hs1 : Hk.size = (G k).size) (hs2 : Hk'.size = (G (k + 1)).size) (hpost : Post ρ (PS V0 G S k) Hk w ρ1 Hk' w1) (hv : Bd (grow (PS V0 G S k) Hk.size Hk'.size) v) (hT : T (k + 1) = putT (T k) o.dst v)
    (hnew : ∀ ℓ : Loc, (G k).size ≤ ℓ.blk → ℓ.blk < (G (k + 1)).size → lv Hk' ℓ = lv (G (k + 1)) ℓ)
    (hvis : ∀ b o, Hk.get b = some o → PS V0 G S k b ∧ (G 0).hid b = false ∧ (G k).tr.get b = some o ∧ ∀ ℓ, Touch (F k) ℓ)
    (hhid : ∀ b, (G k).size ≤ b → Hk'.hid b = false)
    (hold : (∀ ℓ : Loc, ℓ.blk < (G k).size → Touch (F k) ℓ ∧ lv Hk' ℓ = lv (G (k + 1)) ℓ) ∨ ((∀ b, Hk.get b = none) ∧ ∀ ℓ : Loc, ℓ.blk < (G k).size → ¬ Chg' G k ℓ)) :
    ∃ ρ', Inv ops T G ρ0 V0 w0 (And1 S k) ρ' (a.put o.dst (ren ρ1 v)) w1 := by
  rw [hs1, hs2] at hv
  refine ⟨setN ρ ρ1 (G k).size (G (k + 1)).size, ?_⟩
  have h := inv_run R hI hk ho R.sz hm0 hs1 hs2 hpost hv hT hnew hvis hhid hold
  have hext1 : Ext (grow (PS V0 G S k) (G k).size (G (k + 1)).size) ρ1 (setN ρ ρ1 (G k).size (G (k + 1)).size) := by
    rintro b (hb | hb)
    · obtain ⟨e1, e2, e3⟩ := hpost.ext b hb
      obtain ⟨f1, f2, f3⟩ := setN_out (ρ := ρ) (ρ1 := ρ1) (n := (G k).size) (m := (G (k + 1)).size) (b := b) (fun h => by have := hb.2; omega)
      exact ⟨f1.trans e1.symm, f2.trans e2.symm, f3.trans e3.symm⟩
    · exact setN_in hb
  rw [ren_ext hext1 hv] at h
  exact h
theorem inv_step (hcall : SoundCall P call) (R : Reg P call ops T G F) (hI : Inv ops T G ρ0 V0 w0 S ρ a w) (hk : Ready ops S k) (hop : ∀ o ∈ ops, o.op.operands.all operOk = true) (hm0 : ∀ b, (G 0).hid b = true → b < (G 0).size)
    {Q : Exit → Act → World → Prop} {K : Act → World → Prop} (hK : ∀ ρ' a' w', Inv ops T G ρ0 V0 w0 (And1 S k) ρ' a' w' → K a' w') : wpOp P ops Q k K a w := by
  obtain ⟨o, ho⟩ : ∃ o, ops[k]? = some o := ⟨ops[k]'hk.lt, by simp [hk.lt]⟩
  have hat := R.at_ k o ho
  have hev := hI.eval R hk ho (hop o (Array.mem_of_getElem? ho))
  unfold wpOp
  rw [ho]
  simp only
  rw [hI.wanted R hk ho]
  cases hw : Region.wanted o (yielded ops (T k)) with
  | false =>
    rw [if_neg (by simp)]
    obtain ⟨h1, h2, h3⟩ := hat.skip hw
    obtain ⟨ρ', h⟩ := inv_value R hI hk ho hm0 h2 (v := undef) (fun x hx => by simp [undef] at hx) h1
    rw [ren_undef] at h
    exact hK _ _ _ h
  | true =>
    rw [if_pos rfl]
    left
    obtain ⟨h, _⟩ := hat.run hw
    have fin : ∀ {v : Value} {r : Next} {ρ1 : Ren} {w1 : World}, (execOp a.eval o).run P w = .ok r w1 → (r = .value (ren ρ1 v) ∨ (r = .skip ∧ v = undef)) → (∃ ρ', Inv ops T G ρ0 V0 w0 (And1 S k) ρ' (a.put o.dst (ren ρ1 v)) w1) → o.wp P a w K Q := by
      rintro v r ρ1 w1 hr hor ⟨ρ', h⟩
      unfold Oper.wp
      rw [hr]
      rcases hor with rfl | ⟨rfl, rfl⟩
      · exact hK _ _ _ h
      · rw [ren_undef] at h
        exact hK _ _ _ h
    unfold drawStep at h
    split at h
    · -- of no memory
      rename_i hstill
      split at h
      · rename_i v Hr hv
        have hs := sim_bare (V := PS V0 G S k) (n := (G k).size) (fun b hb => hb.2) ρ w
        obtain ⟨g, ρ1, w1, r, r1, r2, r3, r4⟩ := aop_val (P := P) hs hv hev
        have hhid : ∀ b, (G k).size ≤ b → Hr.hid b = false := fun b _ => by unfold Hp.hid; rw [g.msk]; rfl
        have hvis : ∀ b o, (bare (G k).size).get b = some o → PS V0 G S k b ∧ (G 0).hid b = false ∧ (G k).tr.get b = some o ∧ ∀ ℓ, Touch (F k) ℓ := fun b o h => by rw [bare_get] at h; cases h
        split at h
        · rename_i hsz
          injection h with h; injection h with h1 h2; injection h2 with h2 h3
          refine fin r1 r2 (inv_run' (Hk := bare (G k).size) (Hk' := Hr) R hI hk ho hm0 rfl (by rw [← h2]; exact hsz) r4 r3 h1.symm (fun ℓ g1 g2 => by rw [← h2] at g2; omega) hvis hhid (.inr ⟨bare_get _, fun ℓ _ hc => hc (by rw [← h2])⟩))
        · split at h
          · rename_i hsz
            injection h with h; injection h with h1 h2; injection h2 with h2 h3
            have hg : ∀ c, (G (k + 1)).tr.get c = if c = (G k).size then Hr.tr.get (G k).size else (G k).tr.get c := fun c => by rw [← h2, Hp.tr_new]
            have hs2 : (G (k + 1)).size = (G k).size + 1 := by rw [← h2]; rfl
            refine fin r1 r2 (inv_run' (Hk := bare (G k).size) (Hk' := Hr) R hI hk ho hm0 rfl (by rw [hs2]; exact hsz) r4 r3 h1.symm (fun ℓ g1 g2 => ?_) hvis hhid (.inr ⟨bare_get _, fun ℓ hb hc => hc ?_⟩))
            · have e : ℓ.blk = (G k).size := by omega
              exact lv_congr (by rw [hg, if_pos e, e])
            · exact (lv_congr (by rw [hg, if_neg (by omega)])).symm
          · cases h
      · cases h
    · split at h
      · -- load
        rename_i t x hop'
        split at h
        · rename_i b off hx
          split at h
          · rename_i v i hv hi
            injection h with h; injection h with h1 h2; injection h2 with h2 h3
            have hv' := hv
            unfold loadAt' at hv'
            simp only at hv'
            split at hv'
            · rename_i cs z hg
              obtain ⟨g1, g2⟩ := Hp.get_some hg
              unfold Hp.hid at g1
              simp only [List.any_append, Bool.or_eq_false_iff] at g1
              have h0 : (G 0).hid b = false := by rw [← R.hid (Nat.le_of_lt hk.lt)]; exact g1.2
              have hp := hI.visAt R hk g2 h0 g1.1
              obtain ⟨e1, e2⟩ := hev x (by rw [hop']; simp [Op.operands])
              rw [hx] at e1
              obtain ⟨l1, l2⟩ := load_core (P := P) (V := PS V0 G S k) (ρ := ρ) (w := w) hg hi (fun j u j1 j2 hu => by
                have := hI.holdsAt R hk (ℓ := .cell b j) hp (by rw [← h3]; exact ⟨rfl, j1, j2⟩)
                have e : lv (G k) (.cell b j) = some (.inl u) := by
                  simp only [lv]
                  rw [show (G k).tr.get b = _ from g2]
                  simp only [hu, Option.map_some]
                rw [e] at this
                exact this) hv
              refine fin (v := v) (r := .value (ren ρ v)) (ρ1 := ρ) (w1 := w) ?_ (.inl rfl) (inv_value R hI hk ho hm0 h2.symm l2 h1.symm)
              simp only [execOp, hop', e1]
              simp [l1]
            · cases hv'
          · cases h
        · cases h
      · -- store
        rename_i t x y hop'
        split at h
        · rename_i b off hx
          split at h
          · rename_i H1 i hv hi
            injection h with h; injection h with h1 h2; injection h2 with h2 h3
            unfold storeAt' at hv
            simp only at hv
            split at hv
            · rename_i cs z hg
              simp only [Option.bind_eq_bind, Option.bind_eq_some_iff] at hv
              obtain ⟨i', hi', hv⟩ := hv
              rw [hi] at hi'
              injection hi' with hi'
              subst hi'
              split at hv
              · rename_i hc
                obtain ⟨c1, c2, c3⟩ := hc
                injection hv with hv
                subst hv
                obtain ⟨g1, g2⟩ := Hp.get_some hg
                unfold Hp.hid at g1
                simp only [List.any_append, Bool.or_eq_false_iff] at g1
                have g2' : (G k).tr.get b = some (.cells cs z) := g2
                have h0 : (G 0).hid b = false := by rw [← R.hid (Nat.le_of_lt hk.lt)]; exact g1.2
                have hp := hI.visAt R hk g2' h0 g1.1
                obtain ⟨e1, e2⟩ := hev x (by rw [hop']; simp [Op.operands])
                obtain ⟨e3, e4⟩ := hev y (by rw [hop']; simp [Op.operands])
                rw [hx] at e1
                have hs := hI.holdsAt R hk (ℓ := .shp b) hp (by rw [← h3]; rfl)
                have e : lv (G k) (.shp b) = some (.inr (.row cs.size z)) := by simp only [lv, g2']
                rw [e] at hs
                have hrun := store_core (P := P) (ρ := ρ) (w := w) (b := b) (o := off) (n := cs.size) hi c1 c3 e4 c2 (fun j hj => hs.2 j (by omega))
                have hinv := inv_store R hI hk ho (vs := (evalT (T k) y).cells.toList) (n := i.size) h3.symm (by rw [Array.length_toList]; exact c1) hp h0 g2' c2 (fun u hu => ⟨cells_bd c3 e4 u (Array.mem_def.2 hu), all_mem c3 u hu⟩)
                  (fun c => by rw [← h2]; exact Hp.tr_put _ _ _ _) (by rw [← h2]; rfl) h1.symm
                refine fin (v := undef) (r := .skip) (ρ1 := ρ) ?_ (.inr ⟨rfl, rfl⟩) ⟨ρ, by rw [ren_undef]; exact hinv⟩
                simp only [execOp, hop', e1, e3]
                simp [hrun]
              · cases hv
            · cases hv
          · cases h
        · cases h
      · -- all else
        split at h
        · rename_i tm' H' hs
          injection h with h; injection h with h1 h2; injection h2 with h2 h3
          have ht : ∀ ℓ, Touch (F k) ℓ := fun ℓ => by rw [← h3]; trivial
          obtain ⟨hsim, hvis⟩ := hI.sim R hk hm0 ht (G k).size
          have key : ∀ {v : Value} {ρ1 : Ren} {w1 : World}, tm' = putT (T k) o.dst v → Grew { G k with msk := masks ((Region.before ops).getD k 0) 0 (dids G F k) ++ (G k).msk, low := (G k).size } H' →
              Bd (grow (PS V0 G S k) (G k).size H'.size) v → Post ρ (PS V0 G S k) { G k with msk := masks ((Region.before ops).getD k 0) 0 (dids G F k) ++ (G k).msk, low := (G k).size } w ρ1 H' w1 →
              ∃ ρ', Inv ops T G ρ0 V0 w0 (And1 S k) ρ' (a.put o.dst (ren ρ1 v)) w1 := by
            intro v ρ1 w1 hv g r3 r4
            refine inv_run' (Hk := { G k with msk := masks ((Region.before ops).getD k 0) 0 (dids G F k) ++ (G k).msk, low := (G k).size }) (Hk' := H') R hI hk ho hm0 rfl (by rw [← h2]) r4 r3 (h1.symm.trans hv) (fun ℓ _ _ => lv_congr (by rw [← h2])) hvis (fun b hb => ?_) (.inl fun ℓ hb => ⟨ht ℓ, lv_congr (by rw [← h2])⟩)
            cases hh : H'.hid b with
            | false => rfl
            | true =>
              unfold Hp.hid at hh
              rw [g.msk] at hh
              have := hsim.mlt b hh
              exact absurd this (Nat.not_lt.2 hb)
          unfold stepOp at hs
          split at hs
          · rename_i v H1 hv
            injection hs with hs; injection hs with hs1 hs2
            subst hs2
            obtain ⟨g, ρ1, w1, r, r1, r2, r3, r4⟩ := aop_val (P := P) hsim hv hev
            exact fin r1 r2 (key hs1.symm g r3 r4)
          · rename_i f args H1 hv
            obtain ⟨⟨v, H2⟩, hv', hr⟩ := Option.map_eq_some_iff.1 hs
            injection hr with hr1 hr2
            subst hr2
            obtain ⟨rfl, r1, r2⟩ := aop_enter (P := P) hsim hv hev
            unfold Oper.wp
            rw [r1]
            refine (hcall f args _ v H2 hv' ρ _ w hsim r2).mono ?_
            rintro e w' ⟨ρ1, rfl, hb, hp⟩
            obtain ⟨ρ', h⟩ := key hr1.symm hp.grew hb hp.post
            exact hK _ _ _ h
          · cases hs
        · cases h
end
end Go.Ab
