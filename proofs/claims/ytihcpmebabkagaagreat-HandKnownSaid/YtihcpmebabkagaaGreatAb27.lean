/- A faster abstract machine: temporaries in a tree. -/
import Derived.Test.YtihcpmebabkagaaGreatAb26
set_option linter.unusedSimpArgs false
set_option linter.unusedVariables false
namespace Go.Ab
inductive TT where
  | e
  | n (v : Value) (l r : TT)
def TT.get : TT → Nat → Value
  | .e, _ => undef
  | .n v l r, i => bif Nat.beq i 0 then v else bif Nat.beq (i % 2) 1 then l.get (i / 2) else r.get (i / 2 - 1)
def TT.setF (v : Value) : Nat → TT → Nat → TT
  | 0, t, _ => t
  | k + 1, t, i =>
    match t with
    | .e => bif Nat.beq i 0 then .n v .e .e else bif Nat.beq (i % 2) 1 then .n undef (TT.setF v k .e (i / 2)) .e else .n undef .e (TT.setF v k .e (i / 2 - 1))
    | .n u l r => bif Nat.beq i 0 then .n v l r else bif Nat.beq (i % 2) 1 then .n u (TT.setF v k l (i / 2)) r else .n u l (TT.setF v k r (i / 2 - 1))
theorem beq_iff (i j : Nat) : (Nat.beq i j = true) ↔ i = j := ⟨Nat.eq_of_beq_eq_true, fun h => by subst h; exact Nat.beq_refl i⟩
theorem TT.get_e (i : Nat) : TT.e.get i = undef := by simp [TT.get]
theorem TT.get_n (v : Value) (l r : TT) (i : Nat) : (TT.n v l r).get i = if i = 0 then v else if i % 2 = 1 then l.get (i / 2) else r.get (i / 2 - 1) := by
  simp only [TT.get, cond_eq_ite, beq_iff]
theorem TT.get_setF (v : Value) : ∀ (k : Nat) (t : TT) (i j : Nat), i < k → (TT.setF v k t i).get j = if j = i then v else t.get j := by
  intro k
  induction k with
  | zero => intro t i j h; omega
  | succ k ih =>
    intro t i j h
    cases t with
    | e =>
      simp only [TT.setF, cond_eq_ite, beq_iff]
      split
      · subst i; simp only [TT.get_n, TT.get_e]; split <;> simp
      · split
        · simp only [TT.get_n, TT.get_e]
          rw [ih _ _ _ (by omega)]
          simp only [TT.get_e]
          split
          · rw [if_neg (by omega)]
          · split
            · split
              · rw [if_pos (by omega)]
              · rw [if_neg (by omega)]
            · rw [if_neg (by omega)]
        · simp only [TT.get_n, TT.get_e]
          rw [ih _ _ _ (by omega)]
          simp only [TT.get_e]
          split
          · rw [if_neg (by omega)]
          · split
            · rw [if_neg (by omega)]
            · split
              · rw [if_pos (by omega)]
              · rw [if_neg (by omega)]
    | n u l r =>
      simp only [TT.setF, cond_eq_ite, beq_iff]
      split
      · subst i; simp only [TT.get_n]; split <;> simp
      · split
        · simp only [TT.get_n]
          rw [ih _ _ _ (by omega)]
          split
          · rw [if_neg (by omega)]
          · split
            · split
              · rw [if_pos (by omega)]
              · rw [if_neg (by omega)]
            · rw [if_neg (by omega)]
        · simp only [TT.get_n]
          rw [ih _ _ _ (by omega)]
          split
          · rw [if_neg (by omega)]
          · split
            · rw [if_neg (by omega)]
            · split
              · rw [if_pos (by omega)]
              · rw [if_neg (by omega)]
def putF (n : Nat) (t : TT) (dst : Option Tmp) (v : Value) : TT :=
  match dst with
  | some d => bif Nat.blt d n then TT.setF v (d + 1) t d else t
  | none => t
structure Rep (n : Nat) (t : TT) (tm : Array Value) : Prop where
  size : tm.size = n
  get : ∀ i, t.get i = tm.getD i undef
theorem Rep.put {n : Nat} {t : TT} {tm : Array Value} (h : Rep n t tm) (d : Option Tmp) (v : Value) : Rep n (putF n t d v) (putT tm d v) := by
  cases d with
  | none => exact h
  | some d =>
    refine ⟨by simp [putT, h.size], fun i => ?_⟩
    simp only [putF, putT, cond_eq_ite]
    by_cases hd : d < n
    · rw [if_pos (by simpa [Nat.blt_eq] using hd), TT.get_setF _ _ _ _ _ (by omega), h.get]
      simp only [Array.getD_eq_getD_getElem?, Array.getElem?_setIfInBounds]
      by_cases hi : i = d
      · subst hi; rw [if_pos rfl, if_pos rfl, if_pos (by rw [h.size]; exact hd)]; rfl
      · rw [if_neg hi, if_neg (by omega)]
    · rw [if_neg (by simpa [Nat.blt_eq] using hd), h.get]
      simp only [Array.getD_eq_getD_getElem?, Array.getElem?_setIfInBounds]
      by_cases hi : d = i
      · subst hi; rw [if_pos rfl, if_neg (by rw [h.size]; exact hd), Array.getElem?_eq_none (show tm.size ≤ d by rw [h.size]; exact Nat.le_of_not_lt hd)]
      · rw [if_neg hi]
def evF (t : TT) : Operand → Value
  | .tmp i => t.get i
  | .const v => v
  | .global _ => undef
  | .func f => .func (.func f) #[] #[]
theorem Rep.ev {n : Nat} {t : TT} {tm : Array Value} (h : Rep n t tm) : evF t = evalT tm := by
  funext x; cases x <;> simp only [evF, evalT, h.get]
def yieldF (ops : Array Oper) (t : TT) (j : Nat) : Option Bool :=
  match (ops[j]?).bind (·.dst) with
  | some d => match t.get d with | .bool b => some b | _ => none
  | none => none
theorem Rep.yield {n : Nat} {t : TT} {tm : Array Value} (h : Rep n t tm) (ops : Array Oper) : yieldF ops t = yielded ops tm := by
  funext j
  unfold yieldF yielded
  cases (ops[j]?).bind (·.dst) with
  | none => rfl
  | some d =>
    simp only [Option.bind_some, h.get, Array.getD_eq_getD_getElem?]
    cases tm[d]? with
    | none => rfl
    | some v => cases v <;> rfl
def ofL : List Value → Nat → TT → TT
  | [], _, t => t
  | v :: l, i, t => ofL l (i + 1) (TT.setF v (i + 1) t i)
theorem ofL_get : ∀ (l : List Value) (i : Nat) (t : TT) (j : Nat), (ofL l i t).get j = if i ≤ j ∧ j < i + l.length then l[j - i]?.getD undef else t.get j
  | [], i, t, j => by simp only [ofL, List.length_nil]; rw [if_neg (by omega)]
  | v :: l, i, t, j => by
    simp only [ofL, List.length_cons]
    rw [ofL_get l (i + 1), TT.get_setF _ _ _ _ _ (by omega)]
    by_cases h1 : i + 1 ≤ j ∧ j < i + 1 + l.length
    · rw [if_pos h1, if_pos (by omega)]
      obtain ⟨k, hk⟩ : ∃ k, j - i = k + 1 := ⟨j - i - 1, by omega⟩
      rw [hk, show j - (i + 1) = k by omega]; rfl
    · rw [if_neg h1]
      by_cases h2 : j = i
      · subst h2; rw [if_pos rfl, if_pos (by omega)]; simp
      · rw [if_neg h2, if_neg (by omega)]
theorem rep_args (args : Array Value) (k : Nat) : Rep (args.size + k) (ofL args.toList 0 .e) (args ++ Array.replicate k undef) := by
  refine ⟨by simp, fun i => ?_⟩
  rw [ofL_get, TT.get_e]
  simp only [Array.length_toList, Nat.zero_le, true_and, Nat.zero_add, Nat.sub_zero, Array.getElem?_toList, Array.getD_eq_getD_getElem?, Array.getElem?_append, Array.getElem?_replicate]
  split
  · rfl
  · split <;> rfl
section
variable (P : Program) (call : CallT)
def stepF (n : Nat) (t : TT) (H : Hp) (o : Oper) : Option (TT × Hp) :=
  match aop P (evF t) o H with
  | some (.val v H) => some (putF n t o.dst v, H)
  | some (.enter f args H) => match call f args H with | some r => some (putF n t o.dst r.1, r.2) | none => none
  | none => none
def runF (n : Nat) (ops : Array Oper) : List Oper → TT → Hp → Option (TT × Hp)
  | [], t, H => some (t, H)
  | o :: l, t, H =>
    bif Region.wanted o (yieldF ops t) then
      match stepF P call n t H o with
      | some r => runF n ops l r.1 r.2
      | none => none
    else runF n ops l (putF n t o.dst undef) H
def drawF (n : Nat) (t : TT) (H : Hp) (ms : List (Nat × Nat)) (o : Oper) : Option (TT × Hp × Foot) :=
  bif still P o then
    match aop P (evF t) o ⟨.e, H.size, [], H.size⟩ with
    | some (.val v Hr) =>
      bif Nat.beq Hr.size H.size then some (putF n t o.dst v, H, .still)
      else bif Nat.beq Hr.size (H.size + 1) then some (putF n t o.dst v, H.new (Hr.tr.get H.size), .still)
      else none
    | _ => none
  else match o.op with
  | .load ty a =>
    match evF t a with
    | .pointer (some ⟨b, off, none⟩) =>
      match loadAt' P { H with msk := ms ++ H.msk } ty (.pointer (some ⟨b, off, none⟩)), P.info? ty with
      | some v, some i => some (putF n t o.dst v, H, .ld b off (off + max 1 i.size))
      | _, _ => none
    | _ => none
  | .store ty a x =>
    match evF t a with
    | .pointer (some ⟨b, off, none⟩) =>
      match storeAt' P { H with msk := ms ++ H.msk } ty (evF t x) (.pointer (some ⟨b, off, none⟩)), P.info? ty with
      | some H1, some i => some (putF n t o.dst undef, { H1 with msk := H.msk }, .st b off (off + i.size))
      | _, _ => none
    | _ => none
  | _ =>
    match stepF P call n t { H with msk := ms ++ H.msk, low := H.size } o with
    | some (t', H') => some (t', { H' with msk := H.msk, low := min H.low H'.low }, .loud (decide (H'.low < H.size)))
    | none => none
def drawsF (n : Nat) (ops : Array Oper) (b : Array Nat) : List Oper → List Did → TT → Hp → Option (TT × Hp)
  | [], _, t, H => some (t, H)
  | o :: l, did, t, H =>
    bif Region.wanted o (yieldF ops t) then
      match drawF P call n t H (masks (b.getD did.length 0) 0 did) o with
      | some (t', H', f) =>
        bif clash (b.getD did.length 0) f 0 did then none
        else drawsF n ops b l (did ++ [⟨H.size, H'.size, f⟩]) t' H'
      | none => none
    else drawsF n ops b l (did ++ [⟨H.size, H.size, .still⟩]) (putF n t o.dst undef) H
end
section
variable {P : Program} {c1 c2 : CallT} {n : Nat} {t t' : TT} {tm : Array Value} {H H' : Hp}
def Sub (c1 c2 : CallT) : Prop := ∀ f args H r, c1 f args H = some r → c2 f args H = some r
theorem stepF_ok (hc : Sub c1 c2) (hr : Rep n t tm) {o : Oper} (h : stepF P c1 n t H o = some (t', H')) : ∃ tm', stepOp P c2 tm H o = some (tm', H') ∧ Rep n t' tm' := by
  unfold stepF at h
  unfold stepOp
  rw [hr.ev] at h
  split at h
  · rename_i v H1 hv
    injection h with h; injection h with h1 h2
    subst h1 h2
    rw [hv]
    exact ⟨_, rfl, hr.put _ _⟩
  · rename_i f args H1 hv
    split at h
    · rename_i r hcr
      injection h with h; injection h with h1 h2
      subst h1 h2
      rw [hv]
      simp only
      rw [hc _ _ _ _ hcr]
      exact ⟨_, rfl, hr.put _ _⟩
    · cases h
  · cases h
theorem runF_ok (hc : Sub c1 c2) {ops : Array Oper} : ∀ (l : List Oper) {t t' : TT} {tm : Array Value} {H H' : Hp}, Rep n t tm → runF P c1 n ops l t H = some (t', H') → ∃ tm', runOps P c2 ops l tm H = some (tm', H') ∧ Rep n t' tm'
  | [], t, t', tm, H, H', hr, h => by
    simp only [runF, Option.some.injEq, Prod.mk.injEq] at h
    obtain ⟨rfl, rfl⟩ := h
    exact ⟨tm, rfl, hr⟩
  | o :: l, t, t', tm, H, H', hr, h => by
    simp only [runF, hr.yield, cond_eq_ite] at h
    simp only [runOps]
    split at h
    · rename_i hw
      rw [if_pos hw]
      split at h
      · rename_i r hs
        obtain ⟨tm1, h1, h2⟩ := stepF_ok hc hr hs
        rw [h1]
        exact runF_ok hc l h2 h
      · cases h
    · rename_i hw
      rw [if_neg hw]
      exact runF_ok hc l (hr.put _ _) h
theorem drawF_ok (hc : Sub c1 c2) (hr : Rep n t tm) {o : Oper} {ms : List (Nat × Nat)} {f : Foot} (h : drawF P c1 n t H ms o = some (t', H', f)) : ∃ tm', drawStep P c2 tm H ms o = some (tm', H', f) ∧ Rep n t' tm' := by
  unfold drawF at h
  unfold drawStep
  rw [hr.ev] at h
  simp only [cond_eq_ite, beq_iff] at h
  split at h
  · rename_i hs
    rw [if_pos hs]
    split at h
    · rename_i v Hr hv
      rw [hv]
      simp only
      split at h
      · rename_i h1
        injection h with h; injection h with g1 g2; injection g2 with g2 g3
        subst g1 g2 g3
        rw [if_pos h1]
        exact ⟨_, rfl, hr.put _ _⟩
      · rename_i h0
        rw [if_neg h0]
        split at h
        · rename_i h1
          injection h with h; injection h with g1 g2; injection g2 with g2 g3
          subst g1 g2 g3
          rw [if_pos h1]
          exact ⟨_, rfl, hr.put _ _⟩
        · cases h
    · cases h
  · rename_i hs
    rw [if_neg hs]
    split at h
    · rename_i ty a ho
      simp only [ho]
      split at h
      · rename_i b off ha
        simp only [ha]
        split at h
        · rename_i v i hv hi
          injection h with h; injection h with g1 g2; injection g2 with g2 g3
          subst g1 g2 g3
          simp only [hv, hi]
          exact ⟨_, rfl, hr.put _ _⟩
        · cases h
      · cases h
    · rename_i ty a x ho
      simp only [ho]
      split at h
      · rename_i b off ha
        simp only [ha]
        split at h
        · rename_i H1 i hv hi
          injection h with h; injection h with g1 g2; injection g2 with g2 g3
          subst g1 g2 g3
          simp only [hv, hi]
          exact ⟨_, rfl, hr.put _ _⟩
        · cases h
      · cases h
    · rename_i hn1 hn2
      split at h
      · rename_i t1 H1 hst
        obtain ⟨tm1, h1, h2⟩ := stepF_ok hc hr hst
        injection h with h; injection h with g1 g2; injection g2 with g2 g3
        subst g1 g2 g3
        refine ⟨tm1, ?_, h2⟩
        split
        · rename_i ho; exact absurd ho (hn1 _ _)
        · rename_i ho; exact absurd ho (hn2 _ _ _)
        · rw [h1]
      · cases h
theorem drawsF_ok (hc : Sub c1 c2) {ops : Array Oper} {b : Array Nat} : ∀ (l : List Oper) {did : List Did} {t t' : TT} {tm : Array Value} {H H' : Hp}, Rep n t tm → drawsF P c1 n ops b l did t H = some (t', H') → ∃ tm', drawOps P c2 ops b l did tm H = some (tm', H') ∧ Rep n t' tm'
  | [], did, t, t', tm, H, H', hr, h => by
    simp only [drawsF, Option.some.injEq, Prod.mk.injEq] at h
    obtain ⟨rfl, rfl⟩ := h
    exact ⟨tm, rfl, hr⟩
  | o :: l, did, t, t', tm, H, H', hr, h => by
    simp only [drawsF, hr.yield, cond_eq_ite] at h
    simp only [drawOps]
    split at h
    · rename_i hw
      rw [if_pos hw]
      split at h
      · rename_i t1 H1 f hs
        obtain ⟨tm1, h1, h2⟩ := drawF_ok hc hr hs
        rw [h1]
        simp only
        split at h
        · cases h
        · rename_i hcl
          rw [if_neg hcl]
          exact drawsF_ok hc l h2 h
      · cases h
    · rename_i hw
      rw [if_neg hw]
      exact drawsF_ok hc l (hr.put _ _) h
end
abbrev StepF := TT → Hp → Option (Ex × TT × Hp)
def loopF (body : StepF) : Nat → StepF
  | 0, _, _ => none
  | n + 1, t, H =>
    match body t H with
    | some (.normal, t, H) => loopF body n t H
    | r => r
def codeF (P : Program) (call : CallT) (N n : Nat) : Code → StepF
  | .skip, t, H | .label _, t, H => some (.normal, t, H)
  | .region _ ops draw, t, H =>
    bif ops.all fun o => o.op.operands.all operOk then
      bif draw then (bif drawOk ops (Region.before ops) then (match drawsF P call n ops (Region.before ops) ops.toList [] t H with | some r => some (.normal, r.1, r.2) | none => none) else none)
      else (match runF P call n ops ops.toList t H with | some r => some (.normal, r.1, r.2) | none => none)
    else none
  | .seq a b, t, H =>
    match codeF P call N n a t H with
    | some (.normal, t, H) => codeF P call N n b t H
    | r => r
  | .cond c x y, t, H =>
    match evF t c with
    | .bool true => codeF P call N n x t H
    | .bool false => codeF P call N n y t H
    | _ => none
  | .block id body, t, H =>
    match codeF P call N n body t H with
    | some (.exit id', t, H) => bif Nat.beq id' id then some (.normal, t, H) else some (.exit id', t, H)
    | r => r
  | .loop body, t, H => loopF (codeF P call N n body) N t H
  | .exit id, t, H => some (.exit id, t, H)
  | .ret, t, H => some (.ret, t, H)
  | _, _, _ => none
def resultF (P : Program) (t : TT) (H : Hp) : ResultVar → Option Value
  | .tmp i => if noTuple (t.get i) then some (t.get i) else none
  | .cell a ty => match loadAt' P H ty (t.get a) with
    | some v => if noTuple v then some v else none
    | none => none
def resLF (P : Program) (t : TT) (H : Hp) : List ResultVar → Option (List Value)
  | [] => some []
  | r :: l => match resultF P t H r, resLF P t H l with
    | some v, some vs => some (v :: vs)
    | _, _ => none
def resultsF (P : Program) (fn : Func) (t : TT) (H : Hp) : Option Value :=
  match resLF P t H fn.results.toList with
  | some [v] => some v
  | some l => some (.tuple l.toArray)
  | none => none
def bodyF (P : Program) (call : CallT) (N : Nat) (f : FuncId) (args : Array Value) (H : Hp) : Option (Value × Hp) :=
  match P.funcs[f]? with
  | none => none
  | some fn =>
    match fn.body with
    | none => none
    | some c =>
      match codeF P call N (args.size + (fn.ntmps - args.size)) c (ofL args.toList 0 .e) H with
      | some (.normal, t, H) | some (.ret, t, H) => match resultsF P fn t H with | some v => some (v, H) | none => none
      | _ => none
def callF (P : Program) (ext : CallT) (N : Nat) : Nat → CallT
  | 0, _, _, _ => none
  | d + 1, f, args, H =>
    match ext f args H with
    | some r => some r
    | none => bodyF P (callF P ext N d) N f args H
section
variable {P : Program} {c1 c2 : CallT} {n : Nat} {t t' : TT} {tm : Array Value} {H H' : Hp} {ex : Ex}
def StepOk (n : Nat) (b1 : StepF) (b2 : StepT) : Prop := ∀ (t t' : TT) (tm : Array Value) (H H' : Hp) (ex : Ex), Rep n t tm → b1 t H = some (ex, t', H') → ∃ tm', b2 tm H = some (ex, tm', H') ∧ Rep n t' tm'
theorem loopF_ok {b1 : StepF} {b2 : StepT} (hb : StepOk n b1 b2) : ∀ (k : Nat), StepOk n (loopF b1 k) (loopN b2 k)
  | 0 => by intro t t' tm H H' ex hr h; cases h
  | k + 1 => by
    intro t t' tm H H' ex hr h
    simp only [loopF] at h
    simp only [loopN]
    split at h
    · rename_i t1 H1 h1
      obtain ⟨tm1, g1, g2⟩ := hb _ _ _ _ _ _ hr h1
      rw [g1]
      exact loopF_ok hb k _ _ _ _ _ _ g2 h
    · rename_i r hne
      obtain ⟨tm1, g1, g2⟩ := hb _ _ _ _ _ _ hr h
      rw [g1]
      cases ex with
      | normal => exact absurd h (hne t' H')
      | exit id => exact ⟨tm1, rfl, g2⟩
      | ret => exact ⟨tm1, rfl, g2⟩
theorem codeF_ok (hc : Sub c1 c2) (N : Nat) : ∀ (c : Code), StepOk n (codeF P c1 N n c) (aCode P c2 N c) := by
  intro c
  induction c with
  | skip =>
    intro t t' tm H H' ex hr h
    simp only [codeF, Option.some.injEq, Prod.mk.injEq] at h
    obtain ⟨rfl, rfl, rfl⟩ := h
    exact ⟨tm, rfl, hr⟩
  | label l =>
    intro t t' tm H H' ex hr h
    simp only [codeF, Option.some.injEq, Prod.mk.injEq] at h
    obtain ⟨rfl, rfl, rfl⟩ := h
    exact ⟨tm, rfl, hr⟩
  | exit id =>
    intro t t' tm H H' ex hr h
    simp only [codeF, Option.some.injEq, Prod.mk.injEq] at h
    obtain ⟨rfl, rfl, rfl⟩ := h
    exact ⟨tm, rfl, hr⟩
  | ret =>
    intro t t' tm H H' ex hr h
    simp only [codeF, Option.some.injEq, Prod.mk.injEq] at h
    obtain ⟨rfl, rfl, rfl⟩ := h
    exact ⟨tm, rfl, hr⟩
  | region id ops draw =>
    intro t t' tm H H' ex hr h
    simp only [codeF, cond_eq_ite] at h
    simp only [aCode]
    split at h
    · rename_i hop
      rw [if_pos hop]
      split at h
      · rename_i hd
        rw [if_pos hd]
        split at h
        · rename_i hok
          rw [if_pos hok]
          split at h
          · rename_i r hs
            obtain ⟨tm1, g1, g2⟩ := drawsF_ok hc _ hr hs
            simp only [Option.some.injEq, Prod.mk.injEq] at h
            obtain ⟨rfl, rfl, rfl⟩ := h
            rw [g1]
            exact ⟨tm1, rfl, g2⟩
          · cases h
        · cases h
      · rename_i hd
        rw [if_neg hd]
        split at h
        · rename_i r hs
          obtain ⟨tm1, g1, g2⟩ := runF_ok hc _ hr hs
          simp only [Option.some.injEq, Prod.mk.injEq] at h
          obtain ⟨rfl, rfl, rfl⟩ := h
          rw [g1]
          exact ⟨tm1, rfl, g2⟩
        · cases h
    · cases h
  | seq x y ihx ihy =>
    intro t t' tm H H' ex hr h
    simp only [codeF] at h
    simp only [aCode]
    split at h
    · rename_i t1 H1 h1
      obtain ⟨tm1, g1, g2⟩ := ihx _ _ _ _ _ _ hr h1
      rw [g1]
      exact ihy _ _ _ _ _ _ g2 h
    · rename_i r hne
      obtain ⟨tm1, g1, g2⟩ := ihx _ _ _ _ _ _ hr h
      rw [g1]
      cases ex with
      | normal => exact absurd h (hne t' H')
      | exit id => exact ⟨tm1, rfl, g2⟩
      | ret => exact ⟨tm1, rfl, g2⟩
  | cond c x y ihx ihy =>
    intro t t' tm H H' ex hr h
    simp only [codeF, hr.ev] at h
    simp only [aCode]
    split at h
    · rename_i hc
      rw [hc]
      exact ihx _ _ _ _ _ _ hr h
    · rename_i hc
      rw [hc]
      exact ihy _ _ _ _ _ _ hr h
    · cases h
  | block id body ih =>
    intro t t' tm H H' ex hr h
    simp only [codeF, cond_eq_ite, beq_iff] at h
    simp only [aCode]
    split at h
    · rename_i id' t1 H1 h1
      obtain ⟨tm1, g1, g2⟩ := ih _ _ _ _ _ _ hr h1
      rw [g1]
      simp only
      split at h
      · rename_i he
        simp only [Option.some.injEq, Prod.mk.injEq] at h
        obtain ⟨rfl, rfl, rfl⟩ := h
        rw [if_pos he]
        exact ⟨tm1, rfl, g2⟩
      · rename_i he
        simp only [Option.some.injEq, Prod.mk.injEq] at h
        obtain ⟨rfl, rfl, rfl⟩ := h
        rw [if_neg he]
        exact ⟨tm1, rfl, g2⟩
    · rename_i r hne
      obtain ⟨tm1, g1, g2⟩ := ih _ _ _ _ _ _ hr h
      rw [g1]
      cases ex with
      | exit id' => exact absurd h (hne id' t' H')
      | normal => exact ⟨tm1, rfl, g2⟩
      | ret => exact ⟨tm1, rfl, g2⟩
  | loop body ih =>
    intro t t' tm H H' ex hr h
    simp only [codeF] at h
    simp only [aCode]
    exact loopF_ok ih N _ _ _ _ _ _ hr h
  | _ => intro t t' tm H H' ex hr h; simp [codeF] at h
theorem resultF_ok (hr : Rep n t tm) (r : ResultVar) : resultF P t H r = aResult P tm H r := by
  cases r <;> simp only [resultF, aResult, hr.get] <;> rfl
theorem resLF_ok (hr : Rep n t tm) : ∀ l : List ResultVar, resLF P t H l = aResL P tm H l
  | [] => rfl
  | r :: l => by simp only [resLF, aResL, resultF_ok hr, resLF_ok hr l]; rfl
theorem bodyF_ok (hc : Sub c1 c2) (N : Nat) : Sub (bodyF P c1 N) (aBody P c2 N) := by
  intro f args H r h
  unfold bodyF at h
  unfold aBody
  split at h
  · cases h
  · rename_i fn hf
    rw [hf]
    simp only
    split at h
    · cases h
    · rename_i c hb
      rw [hb]
      simp only
      have hr := rep_args args (fn.ntmps - args.size)
      have fin : ∀ (t1 : TT) (tm1 : Array Value) (H1 : Hp), Rep (args.size + (fn.ntmps - args.size)) t1 tm1 → (match resultsF P fn t1 H1 with | some v => some (v, H1) | none => none) = some r → (aResults P fn tm1 H1).map (fun v => (v, H1)) = some r := by
        intro t1 tm1 H1 h1 h2
        have e : resultsF P fn t1 H1 = aResults P fn tm1 H1 := by unfold resultsF aResults; rw [resLF_ok h1]; rfl
        rw [e] at h2
        cases hres : aResults P fn tm1 H1 with
        | none => rw [hres] at h2; cases h2
        | some v => rw [hres] at h2; exact h2
      split at h
      · rename_i t1 H1 h1
        obtain ⟨tm1, g1, g2⟩ := codeF_ok hc N c _ _ _ _ _ _ hr h1
        rw [g1]
        exact fin _ _ _ g2 h
      · rename_i t1 H1 h1
        obtain ⟨tm1, g1, g2⟩ := codeF_ok hc N c _ _ _ _ _ _ hr h1
        rw [g1]
        exact fin _ _ _ g2 h
      · cases h
theorem callF_ok {ext : CallT} (N : Nat) : ∀ d, Sub (callF P ext N d) (callN P ext N d)
  | 0 => fun f args H r h => by cases h
  | d + 1 => by
    intro f args H r h
    simp only [callF] at h
    simp only [callN]
    split at h
    · rename_i r' hr
      rw [hr]; exact h
    · rename_i hr
      rw [hr]
      exact bodyF_ok (callF_ok N d) N f args H r h
theorem isT_F {ext : CallT} {N d : Nat} {f : FuncId} {args : Array Value} (h : isT (callF P ext N d f args H) = true) : isT (callN P ext N d f args H) = true := by
  cases hr : callF P ext N d f args H with
  | none => rw [hr] at h; cases h
  | some r => rw [callF_ok N d _ _ _ _ hr]; rw [hr] at h; exact h
end
end Go.Ab
