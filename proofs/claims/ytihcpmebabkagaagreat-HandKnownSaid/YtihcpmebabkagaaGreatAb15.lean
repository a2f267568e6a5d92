/- Code. -/
import Derived.Test.YtihcpmebabkagaaGreatAb14
import Derived.LoopN
set_option linter.unusedSimpArgs false
set_option linter.unusedVariables false
namespace Go.Ab
section
variable {P : Program} {ρ : Ren} {V : Nat → Prop} {H H' : Hp} {w w' : World}

theorem no_enter {α : Type} {f : α → Res} {x : Option α} {g : FuncId} {as : Array Value} (hf : ∀ a, ∃ v H, f a = .val v H) (h : x.map f = some (.enter g as H')) : False := by
  obtain ⟨a, _, ha⟩ := mapv h
  obtain ⟨v, H, hv⟩ := hf a
  rw [hv] at ha
  cases ha
theorem aop_enter (hS : Sim ρ V H w) {ev evC : Operand → Value} {o : Oper} {f : FuncId} {args : Array Value} (h : aop P ev o H = some (.enter f args H')) (hev : ∀ x ∈ o.op.operands, evC x = ren ρ (ev x) ∧ Bd V (ev x)) :
    H' = H ∧ (execOp evC o).run P w = .ok (.enter f (args.map (ren ρ))) w ∧ ∀ x ∈ args, Bd V x := by
  have hno : aop.pureOp P ev o H = some (.enter f args H') → False := pureOp_no
  unfold aop at h
  cases ho : o.op <;> rw [ho] at h hev <;> simp only at h
  case call c =>
    split at h
    · rename_i fo hc
      unfold calls' at h
      split at h
      · rename_i f' first captured hf
        split at h
        · rename_i fn hfn
          split at h
          · rename_i hcond
            simp only [Bool.and_eq_true, bne_iff_ne, ne_eq, beq_iff_eq] at hcond
            obtain ⟨⟨⟨hname, hbody⟩, hfirst⟩, hcap⟩ := hcond
            injection h with h
            injection h with h1 h2 h3
            subst h1 h2 h3
            obtain rfl := Array.eq_empty_of_size_eq_zero hfirst
            obtain ⟨ef, bf⟩ := hev fo (by simp [Op.operands, Call.operands, hc])
            have hargs : ∀ x ∈ c.args, evC x = ren ρ (ev x) ∧ Bd V (ev x) := fun x hx => hev x (by simp [Op.operands, Call.operands, hc, hx])
            rw [hf] at ef bf
            have ef' : evC fo = .func (.func f') #[] (captured.map (ren0 ρ)) := by rw [ef]; simp [ren, ren2, ren1]
            have ea : c.args.map evC = (c.args.map ev).map (ren ρ) := by rw [Array.map_map]; exact amap_congr fun x hx => (hargs x hx).1
            have hptr : ∀ x ∈ captured, isPtr x = true := fun x hx => all_mem hcap x (Array.mem_def.1 hx)
            have ecap : captured.map (ren0 ρ) = captured.map (ren ρ) := amap_congr fun x hx => by
              have := hptr x hx
              cases x <;> simp only [isPtr, Bool.false_eq_true] at this
              rfl
            refine ⟨rfl, ?_, fun x hx => ?_⟩
            · simp only [execOp, ho, resolve, hc, ef', Deferred.ofValue, Sem.run_bind, Sem.run_pure, Result.andThen_ok, invoke, callFunc, run_program, hfn]
              rw [if_neg (by simpa using hname), if_neg (by cases hb : fn.body with | none => rw [hb] at hbody; cases hbody | some c => simp)]
              simp only [Sem.run_pure, Array.empty_append, ea, ecap, Array.map_append]
            · rcases Array.mem_append.1 hx with hx | hx
              · obtain ⟨y, hy, rfl⟩ := Array.mem_map.1 hx
                exact (hargs y hy).2
              · have h1 := bf.2 x hx
                have h2 := hptr x hx
                cases x <;> simp only [isPtr, Bool.false_eq_true] at h2
                exact h1
          · cases h
        · cases h
      · cases h
    · split at h
      · exact (hno h).elim
      · split at h <;> first
          | exact (hno h).elim
          | exact (no_enter (fun _ => ⟨_, _, rfl⟩) h).elim
          | (split at h <;> first | cases h | (split at h <;> cases h))
    · cases h
  all_goals first
    | exact (hno h).elim
    | cases h
    | exact (no_enter (fun _ => ⟨_, _, rfl⟩) h).elim
    | (split at h <;> first
        | cases h
        | exact (hno h).elim
        | exact (no_enter (fun _ => ⟨_, _, rfl⟩) h).elim
        | (split at h <;> first
            | cases h
            | exact (hno h).elim
            | exact (no_enter (fun _ => ⟨_, _, rfl⟩) h).elim
            | (split at h <;> first
                | cases h
                | (split at h <;> cases h)
                | exact (no_enter (fun _ => ⟨_, _, rfl⟩) h).elim)))

structure CSim (ρ : Ren) (V : Nat → Prop) (tm : Array Value) (H : Hp) (a : Act) (w : World) : Prop where
  tmps : a.tmps = tm.map (ren ρ)
  defers : a.defers = []
  bd : ∀ x ∈ tm, Bd V x
  sim : Sim ρ V H w
structure PostG (ρ : Ren) (V : Nat → Prop) (H : Hp) (w : World) (ρ' : Ren) (H' : Hp) (w' : World) : Prop where
  grew : Grew H H'
  post : Post ρ V H w ρ' H' w'
theorem PostG.refl (h : Sim ρ V H w) : PostG ρ V H w ρ H w := ⟨Grew.refl _, Post.refl h⟩
theorem PostG.trans {ρ' ρ'' : Ren} {H'' : Hp} {w'' : World} (h : PostG ρ V H w ρ' H' w') (k : PostG ρ' (grow V H.size H'.size) H' w' ρ'' H'' w'') : PostG ρ V H w ρ'' H'' w'' :=
  ⟨h.grew.trans k.grew, h.post.trans h.grew.size k.grew.size k.post⟩
def SoundCall (P : Program) (call : CallT) : Prop := ∀ f args H v H', call f args H = some (v, H') → ∀ ρ V w, Sim ρ V H w → (∀ x ∈ args, Bd V x) →
  Calls P f (args.map (ren ρ)) w fun e w' => ∃ ρ', e = .returned (ren ρ' v) ∧ Bd (grow V H.size H'.size) v ∧ PostG ρ V H w ρ' H' w'
theorem ren_undef (ρ : Ren) : ren ρ undef = undef := by simp [undef, ren]
theorem eval_sound {tm : Array Value} {a : Act} (hC : CSim ρ V tm H a w) {x : Operand} (h : operOk x = true) : a.eval x = ren ρ (evalT tm x) ∧ Bd V (evalT tm x) := by
  cases x with
  | tmp t =>
    simp only [Act.eval, evalT, hC.tmps, Array.getD_eq_getD_getElem?, Array.getElem?_map]
    cases ht : tm[t]? with
    | none => exact ⟨(ren_undef ρ).symm, fun x hx => by simp [undef] at hx⟩
    | some v => exact ⟨rfl, hC.bd v (Array.mem_of_getElem? ht)⟩
  | const v => exact ⟨(ren_flat h).symm, Bd_flat h⟩
  | global g => cases h
  | func f => exact ⟨by simp [Act.eval, evalT, ren, ren2, ren1], fun x hx => by simp at hx, fun x hx => by simp at hx⟩
theorem CSim.put {tm : Array Value} {a : Act} {ρ' : Ren} {v : Value} (hC : CSim ρ V tm H a w) (hP : Post ρ V H w ρ' H' w') (hb : Bd (grow V H.size H'.size) v) (d : Option Tmp) :
    CSim ρ' (grow V H.size H'.size) (putT tm d v) H' (a.put d (ren ρ' v)) w' := by
  have e : tm.map (ren ρ) = tm.map (ren ρ') := amap_congr fun x hx => (ren_ext hP.ext (hC.bd x hx)).symm
  refine ⟨?_, ?_, ?_, hP.sim⟩
  · cases d with
    | none => simp only [Act.put, putT, hC.tmps, e]
    | some t => simp only [Act.put, putT, hC.tmps, e, Array.map_setIfInBounds]
  · cases d <;> exact hC.defers
  · cases d with
    | none => exact fun x hx => (hC.bd x hx).mono grow_le
    | some t =>
      intro x hx
      rcases Array.mem_or_eq_of_mem_setIfInBounds hx with h1 | h1
      · exact (hC.bd x h1).mono grow_le
      · subst h1; exact hb
/-- What a piece of code leads to: the frame and the memory at its end. -/
def Ends (ρ : Ren) (V : Nat → Prop) (H : Hp) (w : World) (tm' : Array Value) (H' : Hp) (K : Act → World → Prop) : Prop :=
  ∀ ρ' a' w', PostG ρ V H w ρ' H' w' → CSim ρ' (grow V H.size H'.size) tm' H' a' w' → K a' w'
theorem Ends.mono {tm' : Array Value} {K K' : Act → World → Prop} (h : Ends ρ V H w tm' H' K) (hk : ∀ a w, K a w → K' a w) : Ends ρ V H w tm' H' K' := fun ρ' a' w' hp hc => hk _ _ (h ρ' a' w' hp hc)
theorem Ends.trans {tm'' : Array Value} {H'' : Hp} {K : Act → World → Prop} (h : Ends ρ V H w tm'' H'' K) {ρ' : Ren} (hp : PostG ρ V H w ρ' H' w') : Ends ρ' (grow V H.size H'.size) H' w' tm'' H'' K := by
  intro ρ'' a'' w'' hp2 hc2
  refine h ρ'' a'' w'' (hp.trans hp2) ?_
  rw [grow_grow V hp.grew.size hp2.grew.size] at hc2
  exact hc2
theorem step_sound {call : CallT} (hcall : SoundCall P call) {tm tm' : Array Value} {o : Oper} (h : stepOp P call tm H o = some (tm', H')) (hop : o.op.operands.all operOk = true) {a : Act}
    {next : Act → World → Prop} {Q : Exit → Act → World → Prop} (hC : CSim ρ V tm H a w) (hn : Ends ρ V H w tm' H' next) : o.wp P a w next Q := by
  have hops : ∀ x ∈ o.op.operands, a.eval x = ren ρ (evalT tm x) ∧ Bd V (evalT tm x) := by
    intro x hx
    refine eval_sound hC ?_
    simp only [Array.all_eq_true] at hop
    obtain ⟨i, hi, rfl⟩ := Array.mem_iff_getElem.1 hx
    exact hop i hi
  unfold stepOp at h
  split at h
  · rename_i v H1 hv
    injection h with h
    injection h with h1 h2
    subst h1 h2
    obtain ⟨g, ρ', w', r, r1, r2, r3, r4⟩ := aop_val (P := P) hC.sim hv hops
    unfold Oper.wp
    rw [r1]
    have hput := hC.put r4 r3 o.dst
    rcases r2 with rfl | ⟨rfl, rfl⟩
    · exact hn ρ' _ w' ⟨g, r4⟩ hput
    · rw [ren_undef] at hput
      exact hn ρ' _ w' ⟨g, r4⟩ hput
  · rename_i f args H1 hv
    obtain ⟨⟨v, H2⟩, hv', hr⟩ : ∃ r, call f args H1 = some r ∧ (putT tm o.dst r.1, r.2) = (tm', H') := by simpa [Option.map_eq_some_iff] using h
    injection hr with h1 h2
    subst h1 h2
    obtain ⟨rfl, r1, r2⟩ := aop_enter (P := P) hC.sim hv hops
    unfold Oper.wp
    rw [r1]
    refine (hcall f args _ v H2 hv' ρ V w hC.sim r2).mono ?_
    rintro e w' ⟨ρ', rfl, hb, hp⟩
    exact hn ρ' _ w' hp (hC.put hp.post hb o.dst)
  · cases h
theorem yielded_sound {tm : Array Value} {ops : Array Oper} (ρ : Ren) : yielded ops (tm.map (ren ρ)) = yielded ops tm := by
  funext j
  unfold yielded
  cases hd : (ops[j]?).bind (·.dst) with
  | none => rfl
  | some d =>
    simp only [Option.bind_some, Array.getElem?_map]
    cases tm[d]? with
    | none => rfl
    | some v => cases v <;> rfl
theorem CSim.skip {tm : Array Value} {a : Act} (hC : CSim ρ V tm H a w) (d : Option Tmp) : CSim ρ V (putT tm d undef) H (a.put d undef) w := by
  have := hC.put (v := undef) (Post.refl hC.sim) (by intro x hx; simp at hx) d
  rwa [ren_undef, grow_self] at this
theorem Ends.at {tm : Array Value} {K : Act → World → Prop} (h : Ends ρ V H w tm H K) {a : Act} (hC : CSim ρ V tm H a w) : K a w := h ρ a w (PostG.refl hC.sim) (by rw [grow_self]; exact hC)
theorem runOps_sound {call : CallT} (hcall : SoundCall P call) {ops : Array Oper} {Q : Exit → Act → World → Prop} (hop : ∀ o ∈ ops, o.op.operands.all operOk = true) : ∀ (l : List Oper) (k : Nat), ops.toList.drop k = l → ∀ {ρ : Ren} {V : Nat → Prop} {H H' : Hp} {tm tm' : Array Value} {a : Act} {w : World},
    runOps P call ops l tm H = some (tm', H') → CSim ρ V tm H a w → Ends ρ V H w tm' H' (Q .normal) → wpOps P ops Q (List.range' k (ops.size - k)) a w
  | [], k, hk, ρ, V, H, H', tm, tm', a, w, h, hC, hn => by
    simp only [runOps, Option.some.injEq, Prod.mk.injEq] at h
    obtain ⟨rfl, rfl⟩ := h
    have hlen : ops.size - k = 0 := by have := congrArg List.length hk; simpa using this
    rw [hlen]
    exact hn.at hC
  | o :: l, k, hk, ρ, V, H, H', tm, tm', a, w, h, hC, hn => by
    have hlt : k < ops.size := by
      have := congrArg List.length hk
      simp at this
      omega
    have ho : ops[k]? = some o := by
      have := congrArg (fun l => l[0]?) hk
      simpa using this
    have hk' : ops.toList.drop (k + 1) = l := by
      have := congrArg List.tail hk
      simpa using this
    have hom : o ∈ ops := Array.mem_of_getElem? ho
    rw [show ops.size - k = (ops.size - (k + 1)) + 1 by omega, List.range'_succ]
    simp only [wpOps, ho]
    rw [hC.tmps, yielded_sound]
    simp only [runOps] at h
    split at h
    · rename_i hw
      rw [if_pos hw]
      left
      split at h
      · rename_i r hr
        obtain ⟨tm1, H1⟩ := r
        refine step_sound hcall hr (hop o hom) hC fun ρ1 a1 w1 hp1 hc1 => ?_
        exact runOps_sound hcall hop l (k + 1) hk' h hc1 (hn.trans hp1)
      · cases h
    · rename_i hw
      rw [if_neg hw]
      exact runOps_sound hcall hop l (k + 1) hk' h (hC.skip o.dst) hn
theorem region_sound {call : CallT} (hcall : SoundCall P call) {id : Nat} {ops : Array Oper} {Q : Exit → Act → World → Prop} (hop : ∀ o ∈ ops, o.op.operands.all operOk = true) {tm tm' : Array Value} {a : Act}
    (h : runOps P call ops ops.toList tm H = some (tm', H')) (hC : CSim ρ V tm H a w) (hn : Ends ρ V H w tm' H' (Q .normal)) : (Code.region id ops false).wp P Q a w := by
  refine wp_region ?_
  rw [List.range_eq_range']
  have := runOps_sound (Q := Q) hcall hop ops.toList 0 rfl h hC hn
  exact this

/-- A region that draws its order. -/
def SoundDraw (P : Program) (call : CallT) : Prop := ∀ (id : Nat) (ops : Array Oper) (Q : Exit → Act → World → Prop), (∀ o ∈ ops, o.op.operands.all operOk = true) → drawOk ops (Region.before ops) = true → ∀ (ρ : Ren) (V : Nat → Prop) (H H' : Hp) (tm tm' : Array Value) (a : Act) (w : World),
  drawOps P call ops (Region.before ops) ops.toList [] tm H = some (tm', H') → CSim ρ V tm H a w → Ends ρ V H w tm' H' (Q .normal) → (Code.region id ops true).wp P Q a w

def exOf : Ex → Exit
  | .normal => .normal
  | .exit id => .exit id
  | .ret => .ret
theorem loop_sound {c : Code} {body : StepT} {Q : Exit → Act → World → Prop}
    (hb : ∀ (ρ : Ren) (V : Nat → Prop) (H H' : Hp) (tm tm' : Array Value) (a : Act) (w : World) (ex : Ex) (Q : Exit → Act → World → Prop), body tm H = some (ex, tm', H') → CSim ρ V tm H a w → Ends ρ V H w tm' H' (Q (exOf ex)) → c.wp P Q a w) :
    ∀ (n : Nat) {ρ : Ren} {V : Nat → Prop} {H H' : Hp} {tm tm' : Array Value} {a : Act} {w : World} {ex : Ex}, loopN body n tm H = some (ex, tm', H') → CSim ρ V tm H a w → Ends ρ V H w tm' H' (Q (exOf ex)) → Code.rounds P c Q n a w
  | 0, ρ, V, H, H', tm, tm', a, w, ex, h, _, _ => by cases h
  | n + 1, ρ, V, H, H', tm, tm', a, w, ex, h, hC, hn => by
    rw [rounds_succ]
    simp only [loopN] at h
    split at h
    · rename_i tm1 H1 h1
      refine hb ρ V H H1 tm tm1 a w .normal _ h1 hC fun ρ1 a1 w1 hp1 hc1 => ?_
      exact loop_sound hb n h hc1 (hn.trans hp1)
    · rename_i r hne
      cases ex with
      | normal => exact absurd h (hne tm' H')
      | exit id => exact hb ρ V H H' tm tm' a w (.exit id) _ h hC hn
      | ret => exact hb ρ V H H' tm tm' a w .ret _ h hC hn
theorem code_sound {call : CallT} (hcall : SoundCall P call) (hdraw : SoundDraw P call) (N : Nat) : ∀ (c : Code) (ρ : Ren) (V : Nat → Prop) (H H' : Hp) (tm tm' : Array Value) (a : Act) (w : World) (ex : Ex) (Q : Exit → Act → World → Prop),
    aCode P call N c tm H = some (ex, tm', H') → CSim ρ V tm H a w → Ends ρ V H w tm' H' (Q (exOf ex)) → c.wp P Q a w := by
  intro c
  induction c with
  | skip =>
    intro ρ V H H' tm tm' a w ex Q h hC hn
    simp only [aCode, Option.some.injEq, Prod.mk.injEq] at h
    obtain ⟨rfl, rfl, rfl⟩ := h
    exact wp_skip (hn.at hC)
  | label l =>
    intro ρ V H H' tm tm' a w ex Q h hC hn
    simp only [aCode, Option.some.injEq, Prod.mk.injEq] at h
    obtain ⟨rfl, rfl, rfl⟩ := h
    exact wp_label (hn.at hC)
  | exit id =>
    intro ρ V H H' tm tm' a w ex Q h hC hn
    simp only [aCode, Option.some.injEq, Prod.mk.injEq] at h
    obtain ⟨rfl, rfl, rfl⟩ := h
    exact wp_exit (hn.at hC)
  | ret =>
    intro ρ V H H' tm tm' a w ex Q h hC hn
    simp only [aCode, Option.some.injEq, Prod.mk.injEq] at h
    obtain ⟨rfl, rfl, rfl⟩ := h
    exact wp_ret (hn.at hC)
  | region id ops draw =>
    intro ρ V H H' tm tm' a w ex Q h hC hn
    simp only [aCode] at h
    split at h
    · rename_i hop
      have hop' : ∀ o ∈ ops, o.op.operands.all operOk = true := by
        intro o ho
        simp only [Array.all_eq_true] at hop
        obtain ⟨i, hi, rfl⟩ := Array.mem_iff_getElem.1 ho
        simpa [Array.all_eq_true] using hop i hi
      cases draw with
      | true =>
        simp only [if_true] at h
        split at h
        · rename_i hok
          simp only [Option.map_eq_some_iff, Prod.mk.injEq] at h
          obtain ⟨⟨tm1, H1⟩, hr, rfl, rfl, rfl⟩ := h
          exact hdraw id ops Q hop' hok ρ V H H1 tm tm1 a w hr hC hn
        · cases h
      | false =>
        simp only [Bool.false_eq_true, if_false, Option.map_eq_some_iff, Prod.mk.injEq] at h
        obtain ⟨⟨tm1, H1⟩, hr, rfl, rfl, rfl⟩ := h
        exact region_sound hcall hop' hr hC hn
    · cases h
  | seq x y ihx ihy =>
    intro ρ V H H' tm tm' a w ex Q h hC hn
    simp only [aCode] at h
    refine wp_seq ?_
    split at h
    · rename_i tm1 H1 h1
      refine ihx ρ V H H1 tm tm1 a w .normal _ h1 hC fun ρ1 a1 w1 hp1 hc1 => ?_
      exact ihy ρ1 _ H1 H' tm1 tm' a1 w1 ex Q h hc1 (hn.trans hp1)
    · rename_i r hne
      cases ex with
      | normal => exact absurd h (hne tm' H')
      | exit id => exact ihx ρ V H H' tm tm' a w (.exit id) _ h hC hn
      | ret => exact ihx ρ V H H' tm tm' a w .ret _ h hC hn
  | cond c x y ihx ihy =>
    intro ρ V H H' tm tm' a w ex Q h hC hn
    simp only [aCode] at h
    have hcv : ∀ t, evalT tm c = .bool t → a.eval c = .bool t := by
      intro t ht
      cases c with
      | tmp i =>
        have := (eval_sound hC (x := .tmp i) rfl).1
        rw [this, ht]; rfl
      | const v => exact ht
      | global g => cases ht
      | func f => cases ht
    split at h
    · rename_i hc
      exact wp_cond_true (hcv true hc) (ihx ρ V H H' tm tm' a w ex Q h hC hn)
    · rename_i hc
      exact wp_cond_false (hcv false hc) (ihy ρ V H H' tm tm' a w ex Q h hC hn)
    · cases h
  | block id body ih =>
    intro ρ V H H' tm tm' a w ex Q h hC hn
    simp only [aCode] at h
    refine wp_block ?_
    split at h
    · rename_i id' tm1 H1 h1
      split at h
      · rename_i he
        subst he
        simp only [Option.some.injEq, Prod.mk.injEq] at h
        obtain ⟨rfl, rfl, rfl⟩ := h
        refine ih ρ V H H1 tm tm1 a w (.exit id') _ h1 hC fun ρ1 a1 w1 hp1 hc1 => ?_
        simp only [exOf, Exit.inBlock, if_true]
        exact hn ρ1 a1 w1 hp1 hc1
      · rename_i he
        simp only [Option.some.injEq, Prod.mk.injEq] at h
        obtain ⟨rfl, rfl, rfl⟩ := h
        refine ih ρ V H H1 tm tm1 a w (.exit id') _ h1 hC fun ρ1 a1 w1 hp1 hc1 => ?_
        simp only [exOf, Exit.inBlock, if_neg he]
        exact hn ρ1 a1 w1 hp1 hc1
    · rename_i r hne
      cases ex with
      | normal => exact ih ρ V H H' tm tm' a w .normal _ h hC hn
      | exit id' => exact absurd h (hne id' tm' H')
      | ret => exact ih ρ V H H' tm tm' a w .ret _ h hC hn
  | loop body ih =>
    intro ρ V H H' tm tm' a w ex Q h hC hn
    simp only [aCode] at h
    exact wp_loop_rounds N (loop_sound ih N h hC hn)
  | _ => intro ρ V H H' tm tm' a w ex Q h; simp [aCode] at h
end
end Go.Ab
