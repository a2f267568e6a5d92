/- Regions that draw: the run in the text's order; what waits for what. -/
import Derived.Test.YtihcpmebabkagaaGreatAb17
set_option linter.unusedSimpArgs false
set_option linter.unusedVariables false
namespace Go.Ab
section
variable {P : Program} {call : CallT} {ops : Array Oper}

/-! ### before -/
def waits (acc : Array Nat) (o : Oper) : Nat := o.after.foldl (fun s e => if Region.binds .any e then s ||| 2 ^ e.on ||| acc.getD e.on 0 else s) 0
theorem waits_bit (acc : Array Nat) (o : Oper) (i : Nat) (h : (waits acc o).testBit i = true) : ∃ e ∈ o.after, Region.binds .any e = true ∧ (i = e.on ∨ (acc.getD e.on 0).testBit i = true) := by
  unfold waits at h
  rw [← Array.foldl_toList] at h
  have key : ∀ (l : List Edge) (s : Nat), (l.foldl (fun s e => if Region.binds .any e then s ||| 2 ^ e.on ||| acc.getD e.on 0 else s) s).testBit i = true → s.testBit i = true ∨ ∃ e ∈ l, Region.binds .any e = true ∧ (i = e.on ∨ (acc.getD e.on 0).testBit i = true) := by
    intro l
    induction l with
    | nil => intro s h; exact .inl h
    | cons e l ih =>
      intro s h
      simp only [List.foldl_cons] at h
      rcases ih _ h with h1 | ⟨e', h1, h2⟩
      · split at h1
        · rename_i hb
          simp only [Nat.testBit_or, Bool.or_eq_true] at h1
          rcases h1 with (h1 | h1) | h1
          · exact .inl h1
          · refine .inr ⟨e, by simp, hb, .inl ?_⟩
            rw [Nat.testBit_two_pow] at h1
            simpa using (of_decide_eq_true h1).symm
          · exact .inr ⟨e, by simp, hb, .inr h1⟩
        · exact .inl h1
      · exact .inr ⟨e', by simp [h1], h2⟩
  rcases key _ 0 h with h | ⟨e, he, h1⟩
  · simp at h
  · exact ⟨e, Array.mem_def.2 he, h1⟩
theorem before_fold : ∀ (l : List Oper) (acc : Array Nat), (l.foldl (fun acc o => acc.push (waits acc o)) acc).size = acc.size + l.length ∧ (∀ j, j < acc.size → (l.foldl (fun acc o => acc.push (waits acc o)) acc).getD j 0 = acc.getD j 0) ∧
    ∀ k o, l[k]? = some o → ∃ acc' : Array Nat, acc'.size ≤ acc.size + k ∧ (∀ j, j < acc'.size → (l.foldl (fun acc o => acc.push (waits acc o)) acc).getD j 0 = acc'.getD j 0) ∧ (l.foldl (fun acc o => acc.push (waits acc o)) acc).getD (acc.size + k) 0 = waits acc' o
  | [], acc => ⟨by simp, fun _ _ => rfl, fun k o h => by simp at h⟩
  | o :: l, acc => by
    obtain ⟨h1, h2, h3⟩ := before_fold l (acc.push (waits acc o))
    simp only [List.foldl_cons]
    have hp : ∀ j, j < acc.size → (acc.push (waits acc o)).getD j 0 = acc.getD j 0 := by
      intro j hj
      simp only [Array.getD_eq_getD_getElem?, Array.getElem?_push_lt hj]
      rw [Array.getElem?_eq_getElem hj]
    refine ⟨by rw [h1]; simp; omega, fun j hj => (h2 j (by simp; omega)).trans (hp j hj), fun k o' hk => ?_⟩
    cases k with
    | zero =>
      simp at hk
      subst hk
      refine ⟨acc, by omega, fun j hj => (h2 j (by simp; omega)).trans (hp j hj), ?_⟩
      rw [Nat.add_zero, h2 acc.size (by simp)]
      simp [Array.getD_eq_getD_getElem?]
    | succ k =>
      obtain ⟨acc', g1, g2, g3⟩ := h3 k o' (by simpa using hk)
      refine ⟨acc', by simp at g1; omega, g2, ?_⟩
      rw [Array.size_push] at g3
      rw [show acc.size + (k + 1) = acc.size + 1 + k by omega]
      exact g3
theorem before_bit {k i : Nat} (h : ((Region.before ops).getD k 0).testBit i = true) : ∃ o, ops[k]? = some o ∧ ∃ e ∈ o.after, Region.binds .any e = true ∧ (i = e.on ∨ ((Region.before ops).getD e.on 0).testBit i = true) := by
  have e : Region.before ops = ops.toList.foldl (fun acc o => acc.push (waits acc o)) #[] := by
    unfold Region.before
    rw [← Array.foldl_toList]
    rfl
  rw [e] at h ⊢
  obtain ⟨h1, h2, h3⟩ := before_fold ops.toList #[]
  by_cases hk : k < ops.size
  · have ho : ops.toList[k]? = some ops[k] := by simp [hk]
    obtain ⟨acc', g1, g2, g3⟩ := h3 k _ ho
    simp only [List.size_toArray, List.length_nil, Nat.zero_add] at g3
    rw [g3] at h
    obtain ⟨e, he, hb, hi⟩ := waits_bit acc' _ i h
    refine ⟨ops[k], by simp [hk], e, he, hb, hi.imp id fun hi => ?_⟩
    by_cases hl : e.on < acc'.size
    · rw [g2 _ hl]; exact hi
    · simp only [Array.getD_eq_getD_getElem?] at hi
      rw [Array.getElem?_eq_none (by omega)] at hi
      simp at hi
  · simp only [Array.getD_eq_getD_getElem?] at h
    rw [Array.getElem?_eq_none (by rw [h1]; simp; omega)] at h
    simp at h

/-! ### what drawOk says -/
theorem apartFrom_spec {bk : Nat} {o : Oper} : ∀ (l : List Oper) (i0 : Nat), apartFrom ops bk o i0 l = true → ∀ j x, l[j]? = some x → bk.testBit (i0 + j) = true ∨ x.apart ops o = true
  | [], i0, h, j, x, hx => by simp at hx
  | y :: l, i0, h, j, x, hx => by
    simp only [apartFrom, Bool.and_eq_true, Bool.or_eq_true] at h
    cases j with
    | zero => simp at hx; subst hx; exact h.1
    | succ j =>
      have := apartFrom_spec l (i0 + 1) h.2 j x (by simpa using hx)
      rwa [show i0 + 1 + j = i0 + (j + 1) by omega] at this
theorem apartAll_spec {b : Array Nat} : ∀ (l pre : List Oper), apartAll ops b pre l = true → ∀ k o, l[k]? = some o → ∀ i x, (pre ++ l)[i]? = some x → i < pre.length + k → (b.getD (pre.length + k) 0).testBit i = true ∨ x.apart ops o = true
  | [], pre, h, k, o, ho, i, x, hx, hi => by simp at ho
  | y :: l, pre, h, k, o, ho, i, x, hx, hi => by
    simp only [apartAll, Bool.and_eq_true] at h
    cases k with
    | zero =>
      simp at ho
      subst ho
      rw [List.getElem?_append_left (by omega)] at hx
      have := apartFrom_spec pre 0 h.1 i x hx
      simpa using this
    | succ k =>
      have := apartAll_spec l (pre ++ [y]) h.2 k o (by simpa using ho) i x (by simpa using hx) (by simp; omega)
      rw [List.length_append, List.length_singleton] at this
      rwa [show pre.length + 1 + k = pre.length + (k + 1) by omega] at this
theorem all_mem_edge {p : Edge → Bool} {cs : Array Edge} (h : cs.all p = true) : ∀ v ∈ cs, p v = true := by
  intro v hv
  simp only [Array.all_eq_true] at h
  obtain ⟨i, hi, rfl⟩ := Array.mem_iff_getElem.1 hv
  exact h i hi
theorem backAll_spec : ∀ (l : List Oper) (i : Nat), backAll i l = true → ∀ k o, l[k]? = some o → ∀ e ∈ o.after, Region.binds .any e = true → e.on < i + k
  | [], i, h, k, o, ho => by simp at ho
  | y :: l, i, h, k, o, ho => by
    simp only [backAll, Bool.and_eq_true] at h
    cases k with
    | zero =>
      simp at ho
      subst ho
      intro e he hb
      have := all_mem_edge h.1 e he
      rw [hb] at this
      simpa using this
    | succ k =>
      intro e he hb
      have := backAll_spec l (i + 1) h.2 k o (by simpa using ho) e he hb
      omega

/-! ### the run in the text's order -/
def dids (G : Nat → Hp) (F : Nat → Foot) (k : Nat) : List Did := (List.range k).map fun i => ⟨(G i).size, (G (i + 1)).size, F i⟩
structure TraceAt (P : Program) (call : CallT) (ops : Array Oper) (bk : Nat) (ds : List Did) (o : Oper) (tm : Array Value) (H : Hp) (tm' : Array Value) (H' : Hp) (f : Foot) : Prop where
  run : Region.wanted o (yielded ops tm) = true → drawStep P call tm H (masks bk 0 ds) o = some (tm', H', f) ∧ clash bk f 0 ds = false
  skip : Region.wanted o (yielded ops tm) = false → tm' = putT tm o.dst undef ∧ H' = H ∧ f = .still
theorem trace_of {b : Array Nat} : ∀ (l : List Oper) (did : List Did) (tm tm' : Array Value) (H H' : Hp), drawOps P call ops b l did tm H = some (tm', H') →
    ∃ (T : Nat → Array Value) (G : Nat → Hp) (F : Nat → Foot), T 0 = tm ∧ G 0 = H ∧ T l.length = tm' ∧ G l.length = H' ∧ ∀ k o, l[k]? = some o → TraceAt P call ops (b.getD (did.length + k) 0) (did ++ dids G F k) o (T k) (G k) (T (k + 1)) (G (k + 1)) (F k)
  | [], did, tm, tm', H, H', h => by
    simp only [drawOps, Option.some.injEq, Prod.mk.injEq] at h
    obtain ⟨rfl, rfl⟩ := h
    exact ⟨fun _ => tm, fun _ => H, fun _ => .still, rfl, rfl, rfl, rfl, fun k o hk => by simp at hk⟩
  | o :: l, did, tm, tm', H, H', h => by
    have go : ∀ (tm1 : Array Value) (H1 : Hp) (f : Foot), drawOps P call ops b l (did ++ [⟨H.size, H1.size, f⟩]) tm1 H1 = some (tm', H') → TraceAt P call ops (b.getD did.length 0) did o tm H tm1 H1 f →
        ∃ (T : Nat → Array Value) (G : Nat → Hp) (F : Nat → Foot), T 0 = tm ∧ G 0 = H ∧ T (o :: l).length = tm' ∧ G (o :: l).length = H' ∧ ∀ k o', (o :: l)[k]? = some o' → TraceAt P call ops (b.getD (did.length + k) 0) (did ++ dids G F k) o' (T k) (G k) (T (k + 1)) (G (k + 1)) (F k) := by
      intro tm1 H1 f h1 h2
      obtain ⟨T, G, F, t0, g0, tn, gn, hat⟩ := trace_of l _ _ _ _ _ h1
      refine ⟨fun k => match k with | 0 => tm | k + 1 => T k, fun k => match k with | 0 => H | k + 1 => G k, fun k => match k with | 0 => f | k + 1 => F k, rfl, rfl, tn, gn, fun k o' hk => ?_⟩
      cases k with
      | zero =>
        simp at hk
        subst hk
        have e : dids (fun k => match k with | 0 => H | k + 1 => G k) (fun k => match k with | 0 => f | k + 1 => F k) 0 = [] := rfl
        rw [e, List.append_nil, Nat.add_zero]
        simp only [t0, g0]
        exact h2
      | succ k =>
        have := hat k o' (by simpa using hk)
        rw [List.length_append, List.length_singleton] at this
        have e : did ++ dids (fun k => match k with | 0 => H | k + 1 => G k) (fun k => match k with | 0 => f | k + 1 => F k) (k + 1) = did ++ [⟨H.size, H1.size, f⟩] ++ dids G F k := by
          unfold dids
          rw [List.range_succ_eq_map, List.map_cons, List.map_map, List.append_assoc, List.singleton_append]
          simp only [g0]
          rfl
        rw [e, show did.length + (k + 1) = did.length + 1 + k by omega]
        exact this
    simp only [drawOps] at h
    split at h
    · rename_i hw
      split at h
      · rename_i tm1 H1 f hs
        split at h
        · cases h
        · rename_i hcl
          exact go tm1 H1 f h ⟨fun _ => ⟨hs, by simpa using hcl⟩, fun hn => by rw [hw] at hn; cases hn⟩
      · cases h
    · rename_i hw
      exact go _ _ _ h ⟨fun hn => absurd hn hw, fun _ => ⟨rfl, rfl, rfl⟩⟩
theorem masks_spec {bk : Nat} {c : Nat} : ∀ (l : List Did) (i0 j : Nat) (d : Did), l[j]? = some d → bk.testBit (i0 + j) = false → d.lo ≤ c → c < d.hi → ((masks bk i0 l).any fun m => m.1 ≤ c && c < m.2) = true
  | [], i0, j, d, hd, _, _, _ => by simp at hd
  | x :: l, i0, j, d, hd, hb, h1, h2 => by
    simp only [masks]
    cases j with
    | zero =>
      simp at hd
      subst hd
      rw [Nat.add_zero] at hb
      rw [if_pos (by simp [hb]; omega)]
      simp [h1, h2]
    | succ j =>
      have := masks_spec l (i0 + 1) j d (by simpa using hd) (by rwa [show i0 + 1 + j = i0 + (j + 1) by omega]) h1 h2
      split
      · rw [List.any_cons, this, Bool.or_true]
      · exact this
theorem clash_spec {bk : Nat} {f : Foot} : ∀ (l : List Did) (i0 j : Nat) (d : Did), clash bk f i0 l = false → l[j]? = some d → bk.testBit (i0 + j) = false → d.foot.clash f = false
  | [], i0, j, d, _, hd, _ => by simp at hd
  | x :: l, i0, j, d, h, hd, hb => by
    simp only [clash, Bool.or_eq_false_iff] at h
    cases j with
    | zero =>
      simp at hd
      subst hd
      rw [Nat.add_zero] at hb
      have := h.1
      rw [hb] at this
      simpa using this
    | succ j => exact clash_spec l (i0 + 1) j d h.2 (by simpa using hd) (by rwa [show i0 + 1 + j = i0 + (j + 1) by omega])
theorem dids_get {G : Nat → Hp} {F : Nat → Foot} {k i : Nat} (h : i < k) : (dids G F k)[i]? = some ⟨(G i).size, (G (i + 1)).size, F i⟩ := by
  unfold dids
  rw [List.getElem?_map, List.getElem?_range h]; rfl
end
end Go.Ab
