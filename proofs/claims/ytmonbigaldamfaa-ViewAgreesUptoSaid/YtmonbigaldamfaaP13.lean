/- Chapter 13, plainly: two views that tell each other what they know come to know the same. -/
import Derived.Test.YtmonbigaldamfaaM
namespace Go.Osm
open Go.RowKit

theorem cmpI_self (x : Int) : cmpI x x = 0 := by unfold cmpI; split <;> (try split) <;> omega
theorem cmpI_zero {x y : Int} : cmpI x y = 0 ↔ x = y := by unfold cmpI; split <;> (try split) <;> omega
theorem cmpI_neg {x y : Int} : cmpI x y < 0 ↔ x < y := by unfold cmpI; split <;> (try split) <;> omega
theorem cmpI_swap (x y : Int) : cmpI y x = - cmpI x y := by unfold cmpI; split <;> split <;> (try split) <;> omega
theorem orI_cons (x : Int) (r : List Int) : orI (x :: r) = if x = 0 then orI r else x := rfl
theorem orI_neg (l : List Int) : orI (l.map (- ·)) = - orI l := by
  induction l with
  | nil => rfl
  | cons x r ih =>
    rw [List.map_cons, orI_cons, orI_cons, ih]
    split <;> split <;> omega
theorem compareE_swap (a b : Entry) : compareE b a = - compareE a b := by
  unfold compareE
  rw [← orI_neg]
  simp only [List.map_cons, List.map_nil, ← cmpI_swap]
theorem compareE_self (a : Entry) : compareE a a = 0 := by simp [compareE, cmpI_self, orI]
theorem compareE_zero {a b : Entry} (h : compareE a b = 0) : a = b := by
  simp only [compareE, orI] at h
  have h1 : cmpI a.inc b.inc = 0 := by split at h <;> simp_all
  rw [if_pos h1] at h
  have h2 : cmpI a.status b.status = 0 := by split at h <;> simp_all
  rw [if_pos h2] at h
  have h3 : cmpI a.stamp b.stamp = 0 := by split at h <;> simp_all
  rw [if_pos h3] at h
  have h4 : cmpI a.load b.load = 0 := by split at h <;> simp_all
  rw [if_pos h4] at h
  have h5 : cmpI (bitI a.drain) (bitI b.drain) = 0 := by split at h <;> simp_all
  rw [cmpI_zero] at h1 h2 h3 h4 h5
  obtain ⟨a1, a2, a3, a4, a5⟩ := a
  obtain ⟨b1, b2, b3, b4, b5⟩ := b
  simp only at h1 h2 h3 h4 h5
  subst h1 h2 h3 h4
  have : a5 = b5 := by cases a5 <;> cases b5 <;> simp_all [bitI]
  rw [this]
theorem less_irrefl (a : Entry) : lessE a a = false := by simp [lessE, compareE_self]
theorem less_eq {a b : Entry} (h : lessE a b = false) (k : lessE b a = false) : a = b := by
  unfold lessE at h k
  rw [compareE_swap a b] at k
  simp at h k
  exact compareE_zero (by omega)
theorem less_inc {a b : Entry} (h : a.inc < b.inc) : lessE a b = true := by
  unfold lessE compareE
  rw [orI_cons, if_neg (by rw [cmpI_zero]; omega)]
  simp [cmpI_neg, h]

/-- What one entry becomes when x is heard of it. -/
def absorb (own : Bool) (old x : Entry) : Entry :=
  if x.inc ≥ 1099511627776 ∨ x.stamp ≥ 1099511627776 ∨ lessE old x = false then old
  else if own then { old with inc := wrap64 (x.inc + 1), status := 0 } else x
theorem View.heard1_at (V : View) (now : Int) (k : Nat) (x : Entry) (hk : k < V.tab.length) (j : Nat) :
    (V.heard1 now k x).1.at j = if j = k then absorb (decide ((k : Int) = V.me)) (V.at k) x else V.at j := by
  unfold View.heard1 absorb
  split
  · split <;> simp_all
  · split
    · rename_i h
      simp only [h, decide_true, if_true]
      by_cases hj : j = k
      · subst hj; simp [View.at, hk]
      · simp [View.at, hj, List.getElem?_set_ne (Ne.symm hj)]
    · rename_i h
      simp only [h, decide_false, Bool.false_eq_true, if_false]
      by_cases hj : j = k
      · subst hj; simp [View.at, View.setE, hk]
      · simp [View.at, View.setE, hj, List.getElem?_set_ne (Ne.symm hj)]
theorem View.heardL_at (now : Int) (xs : List Entry) : ∀ (V : View) (k : Nat) (r : Int) (j : Nat), j < V.tab.length →
    (V.heardL now k xs r).1.at j = if h : k ≤ j ∧ j < k + xs.length then absorb (decide ((j : Int) = V.me)) (V.at j) (xs[j - k]'(by omega)) else V.at j := by
  induction xs with
  | nil => intro V k r j hj; rw [dif_neg (by simp)]; rfl
  | cons x xs ih =>
    intro V k r j hj
    rw [View.heardL]
    split
    · rw [ih V (k + 1) r j hj, dif_neg (by omega), dif_neg (by omega)]
    · have hm := View.heard1_me V now k x
      rw [ih _ _ _ j (by rw [hm.2]; exact hj)]
      have ha := View.heard1_at V now k x (by omega) j
      rw [ha, hm.1]
      by_cases hjk : j = k
      · subst hjk
        rw [dif_neg (by omega), dif_pos (by simp), if_pos rfl]
        simp
      · rw [if_neg hjk]
        by_cases h2 : k + 1 ≤ j ∧ j < k + 1 + xs.length
        · rw [dif_pos h2, dif_pos (by simp; omega)]
          congr 1
          rw [List.getElem_cons, dif_neg (by omega)]
          congr 1
        · rw [dif_neg h2, dif_neg (by simp; omega)]
theorem View.acked_at (V : View) (src : Int) (ack : Bool) (j : Nat) : (V.acked src ack).at j = V.at j ∧ (V.acked src ack).me = V.me ∧ (V.acked src ack).tab = V.tab := by
  unfold View.acked; split <;> exact ⟨rfl, rfl, rfl⟩
theorem View.heard_at (V : View) (now src : Int) (ack : Bool) (xs : List Entry) (j : Nat) (hj : j < V.tab.length) :
    (V.heard now src ack xs).1.at j = if h : j < xs.length then absorb (decide ((j : Int) = V.me)) (V.at j) xs[j] else V.at j := by
  unfold View.heard
  have ha := View.acked_at V src ack j
  rw [View.heardL_at _ _ _ _ _ j (by rw [ha.2.2]; exact hj), ha.1, ha.2.1]
  by_cases h : j < xs.length
  · rw [dif_pos ⟨by omega, by omega⟩, dif_pos h]; simp
  · rw [dif_neg (by omega), dif_neg h]
/-- The whole table heard of, place by place. -/
theorem View.heard_tab (V W : View) (now src : Int) (ack : Bool) (hl : V.tab.length = W.tab.length) (j : Nat) (hj : j < V.tab.length) :
    (V.heard now src ack W.tab).1.at j = absorb (decide ((j : Int) = V.me)) (V.at j) (W.at j) := by
  have hj' : j < W.tab.length := by omega
  rw [View.heard_at V now src ack W.tab j hj, dif_pos hj']
  simp [View.at, hj']
theorem tab_ext {V W : View} (hl : V.tab.length = W.tab.length) (h : ∀ j, j < V.tab.length → V.at j = W.at j) : V.tab = W.tab := by
  apply List.ext_getElem hl
  intro i h1 h2
  have := h i h1
  simpa [View.at, h1, h2] using this
theorem absorb_eq {b : Bool} {x y : Entry} (hi : y.inc < 1099511627776) (hs : y.stamp < 1099511627776) : absorb b x y = if lessE x y = false then x else if b then { x with inc := wrap64 (y.inc + 1), status := 0 } else y := by
  unfold absorb
  have e1 : ¬ y.inc ≥ 1099511627776 := by omega
  have e2 : ¬ y.stamp ≥ 1099511627776 := by omega
  simp only [e1, e2, false_or]
theorem absorb_self (b : Bool) (x : Entry) : absorb b x x = x := by unfold absorb; rw [if_pos (.inr (.inr (less_irrefl x)))]
theorem wrap_small {x : Int} (h0 : 0 ≤ x) (h1 : x ≤ 1099511627776) : wrap64 (x + 1) = x + 1 := by unfold wrap64; omega
/-- One round told to and fro of an entry that is neither's own. -/
theorem round_other {u v : Entry} (hu : u.inc < 1099511627776 ∧ u.stamp < 1099511627776) (hv : v.inc < 1099511627776 ∧ v.stamp < 1099511627776) : absorb false u (absorb false v u) = absorb false v u := by
  rw [absorb_eq hu.1 hu.2]
  split
  · rename_i h
    rw [absorb_eq hv.1 hv.2]
    split
    · rename_i k; exact less_eq k h
    · rfl
  · exact absorb_self _ _
/-- One round of an entry that is the first hearer's own. -/
theorem round_own {u v : Entry} (hu : 0 ≤ u.inc ∧ u.inc < 1000 ∧ u.stamp < 1099511627776) (hv : v.inc < 1000 ∧ v.stamp < 1099511627776) : absorb false u (absorb true v u) = absorb true v u := by
  rw [absorb_eq (by omega) hu.2.2]
  split
  · rename_i h
    rw [absorb_eq (by omega) hv.2]
    split
    · rename_i k; exact less_eq k h
    · rfl
  · have hw := wrap_small hu.1 (by omega : u.inc ≤ 1099511627776)
    rw [if_pos rfl, absorb_eq (y := { v with inc := wrap64 (u.inc + 1), status := 0 }) (by rw [hw]; simp only; omega) hv.2]
    rw [less_inc (by rw [hw]; simp only; omega)]
    simp
/-- Two rounds of an entry that is the second hearer's own. -/
theorem round_two {u v : Entry} (hu : 0 ≤ u.inc ∧ u.inc < 1000 ∧ u.stamp < 1099511627776) (hv : 0 ≤ v.inc ∧ v.inc < 1000 ∧ v.stamp < 1099511627776) :
    ∃ z, absorb false (absorb false v u) (absorb true u (absorb false v u)) = z ∧ absorb true (absorb true u (absorb false v u)) z = z ∧ absorb true u (absorb false v u) = z := by
  refine ⟨_, ?_, absorb_self _ _, rfl⟩
  have e : absorb false v u = if lessE v u = false then v else u := by rw [absorb_eq (by omega) hu.2.2]; simp
  rw [e]
  split
  · rw [absorb_eq (b := true) (x := u) (by omega) hv.2.2]
    split
    · rename_i h k
      rw [less_eq k h, absorb_self]
    · have hw := wrap_small hv.1 (by omega : v.inc ≤ 1099511627776)
      rw [if_pos rfl, absorb_eq (y := { u with inc := wrap64 (v.inc + 1), status := 0 }) (by rw [hw]; simp only; omega) hu.2.2]
      rw [less_inc (by rw [hw]; simp only; omega)]
      simp
  · rw [absorb_self, absorb_self]
theorem absorb_status {u v : Entry} (h : u.status = 0) : (absorb true u v).status = 0 := by unfold absorb; split <;> simp [h]

/-- What holds of a view of four while it is told. -/
structure Inv (V : View) (me n : Nat) : Prop where
  ok : V.Ok
  len : V.tab.length = 4
  mine : V.me = me
  pr : V.probed ≠ me
  inc : ∀ j : Nat, j < 4 → 0 ≤ (V.at j).inc ∧ (V.at j).inc ≤ 4
  stamp : ∀ j : Nat, j < 4 → j ≠ me → (V.at j).stamp < 1099511627776
  own : (V.at me).status = 0 ∧ 0 ≤ (V.at me).stamp ∧ (V.at me).stamp ≤ n
theorem Inv.lt {V : View} {me n : Nat} (h : Inv V me n) : me < 4 := by have := h.ok.me1; rw [h.mine, h.len] at this; omega
theorem setE_at (V : View) (now : Int) (k : Nat) (x : Entry) (hk : k < V.tab.length) (j : Nat) : (V.setE now k x).at j = if j = k then x else V.at j := by
  by_cases hj : j = k
  · subst hj; simp [View.at, View.setE, hk]
  · simp [View.at, View.setE, hj, List.getElem?_set_ne (Ne.symm hj)]
theorem Inv.judge {V : View} {me n : Nat} (h : Inv V me n) (now : Int) (k : Nat) (hk : k ≠ me) (st : Int) : Inv (V.judge now k st) me n := by
  by_cases hk4 : k < V.tab.length
  · obtain ⟨e1, e2, e3, e4, e5⟩ := View.judge_keeps V now k st
    have ha : ∀ j, (V.judge now k st).at j = if j = k then { V.at k with status := st } else V.at j := setE_at V now k _ hk4
    refine ⟨⟨by rw [e1]; exact h.ok.me0, by rw [e1, e5]; exact h.ok.me1, by rw [e2]; exact h.ok.last0, by rw [e2, e5]; exact h.ok.last1, by rw [e3]; exact h.ok.pr0, by rw [e3, e5]; exact h.ok.pr1⟩, e5.trans h.len, e1.trans h.mine, by rw [e3]; exact h.pr, ?_, ?_, ?_⟩
    · intro j hj
      rw [ha]
      split
      · exact h.inc k (by have := h.len; omega)
      · exact h.inc j hj
    · intro j hj hm
      rw [ha]
      split
      · exact h.stamp k (by have := h.len; omega) hk
      · exact h.stamp j hj hm
    · rw [ha, if_neg (Ne.symm hk)]
      exact h.own
  · have e : (V.judge now k st).tab = V.tab := by simp only [View.judge, View.setE]; exact List.set_eq_of_length_le (by omega)
    have ha : ∀ j, (V.judge now k st).at j = V.at j := by intro j; unfold View.at; rw [e]
    obtain ⟨e1, e2, e3, e4, e5⟩ := View.judge_keeps V now k st
    refine ⟨⟨by rw [e1]; exact h.ok.me0, by rw [e1, e5]; exact h.ok.me1, by rw [e2]; exact h.ok.last0, by rw [e2, e5]; exact h.ok.last1, by rw [e3]; exact h.ok.pr0, by rw [e3, e5]; exact h.ok.pr1⟩, e5.trans h.len, e1.trans h.mine, by rw [e3]; exact h.pr, ?_, ?_, ?_⟩
    · intro j hj; rw [ha]; exact h.inc j hj
    · intro j hj hm; rw [ha]; exact h.stamp j hj hm
    · rw [ha]; exact h.own
theorem Inv.dead1 {V : View} {me n : Nat} (h : Inv V me n) (now : Int) (k : Nat) : Inv (V.dead1 now k) me n := by
  unfold View.dead1
  split
  · rename_i hh; exact h.judge now k (by have := hh.1; rw [h.mine] at this; omega) 2
  · exact h
theorem Inv.deadL {me n : Nat} (now : Int) (m : Nat) : ∀ (V : View) (k : Nat), Inv V me n → Inv (V.deadL now k m) me n := by
  induction m with
  | zero => intro V k h; exact h
  | succ m ih => intro V k h; exact ih _ _ (h.dead1 now k)
theorem Inv.probed {V : View} {me n : Nat} (h : Inv V me n) : Inv { V with probed := -1 } me n :=
  ⟨⟨h.ok.me0, h.ok.me1, h.ok.last0, h.ok.last1, by simp, by have := h.ok.me0; have := h.ok.me1; simp only; omega⟩, h.len, h.mine, by simp only; omega, h.inc, h.stamp, h.own⟩
theorem Inv.lapse {V : View} {me n : Nat} (h : Inv V me n) (now : Int) : Inv (V.lapse now) me n := by
  unfold View.lapse
  split
  · rename_i ho
    refine Inv.probed ?_
    split
    · refine h.judge now _ ?_ 1
      have h1 : V.probed ≠ -1 := by unfold View.over at ho; simp at ho; exact ho.1
      have := h.ok.pr0
      have := h.pr
      omega
    · exact h
  · exact h
theorem tmod4 (x : Int) (h0 : 0 ≤ x) (h1 : x ≤ 4) : x.tmod ((4 : Nat) : Int) = if x = 4 then 0 else x := by
  split
  · rename_i h; rw [h]; rfl
  · exact Int.tmod_eq_of_lt h0 (by omega)
theorem Inv.next {V : View} {me n : Nat} (h : Inv V me n) : 0 ≤ V.next ∧ V.next < 4 ∧ V.next ≠ me := by
  have h1 := h.ok.last0
  have h2 := h.ok.last1
  have h3 := h.lt
  have hm := h.mine
  have hl := h.len
  rw [hl] at h2
  unfold View.next
  rw [hm, hl, wrap_small h1 (by omega), tmod4 _ (by omega) (by omega)]
  by_cases h4 : V.last + 1 = 4
  · rw [if_pos h4]
    simp only
    by_cases h5 : (0 : Int) = me
    · rw [if_pos h5, ← h5, wrap_small (by decide) (by decide), tmod4 _ (by decide) (by decide)]; decide
    · rw [if_neg h5]; omega
  · rw [if_neg h4]
    simp only
    by_cases h5 : V.last + 1 = me
    · rw [if_pos h5, h5, wrap_small (by omega) (by omega), tmod4 _ (by omega) (by omega)]
      split <;> omega
    · rw [if_neg h5]; omega
theorem Inv.ping {V : View} {me n : Nat} (h : Inv V me n) (now : Int) : Inv (V.ping now).1 me n := by
  unfold View.ping
  split
  · exact h
  · have hn := h.next
    exact ⟨⟨h.ok.me0, h.ok.me1, hn.1, by have := h.len; simp; omega, by simp; omega, by have := h.len; simp; omega⟩, h.len, h.mine, hn.2.2, h.inc, h.stamp, h.own⟩
theorem Inv.tickOwn {V : View} {me n : Nat} (h : Inv V me n) (load : Int) (drain : Bool) (hn : n ≤ 1099511627775) : Inv (V.tickOwn load drain) me (n + 1) := by
  have hlt := h.lt
  have hme := h.mine
  have hl := h.len
  have hto : V.me.toNat = me := by omega
  have ha : ∀ j, (V.tickOwn load drain).at j = if j = me then { V.at me with stamp := wrap64 ((V.at me).stamp + 1), load := load, drain := drain } else V.at j := by
    intro j
    unfold View.tickOwn
    rw [hto]
    by_cases hj : j = me
    · subst hj; simp [View.at, hl, hlt]
    · simp [View.at, hj, List.getElem?_set_ne (Ne.symm hj)]
  have ho := h.own
  have hw := wrap_small ho.2.1 (by omega : (V.at me).stamp ≤ 1099511627776)
  refine ⟨⟨h.ok.me0, by simpa [View.tickOwn] using h.ok.me1, h.ok.last0, by simpa [View.tickOwn] using h.ok.last1, h.ok.pr0, by simpa [View.tickOwn] using h.ok.pr1⟩, by simpa [View.tickOwn] using hl, hme, h.pr, ?_, ?_, ?_⟩
  · intro j hj
    rw [ha]
    split
    · exact h.inc me hlt
    · exact h.inc j hj
  · intro j hj hm
    rw [ha, if_neg hm]
    exact h.stamp j hj hm
  · rw [ha, if_pos rfl]
    refine ⟨ho.1, ?_, ?_⟩ <;> simp only [hw] <;> omega
theorem Inv.tick {V : View} {me n : Nat} (h : Inv V me n) (now load : Int) (drain : Bool) (hn : n ≤ 1099511627775) : Inv (V.tick now load drain).1 me (n + 1) := by
  unfold View.tick
  exact ((Inv.deadL now _ _ 0 (h.tickOwn load drain hn)).lapse now).ping now
theorem Inv.mono {V : View} {me n m : Nat} (h : Inv V me n) (hm : n ≤ m) : Inv V me m :=
  ⟨h.ok, h.len, h.mine, h.pr, h.inc, h.stamp, h.own.1, h.own.2.1, by have := h.own.2.2; omega⟩
theorem Inv.acked {V : View} {me n : Nat} (h : Inv V me n) (src : Int) (ack : Bool) : Inv (V.acked src ack) me n := by
  unfold View.acked
  split
  · exact h.probed
  · exact h
theorem heard1_keeps (V : View) (now : Int) (k : Nat) (x : Entry) : (V.heard1 now k x).1.last = V.last ∧ (V.heard1 now k x).1.probed = V.probed := by
  unfold View.heard1
  split
  · exact ⟨rfl, rfl⟩
  · split <;> exact ⟨rfl, rfl⟩
theorem Inv.heard1 {V : View} {me n : Nat} (h : Inv V me n) (now : Int) (k : Nat) (hk : k < 4) (x : Entry) (hx : 0 ≤ x.inc ∧ x.inc ≤ 3) : Inv (V.heard1 now k x).1 me n := by
  have hm := View.heard1_me V now k x
  have hp := heard1_keeps V now k x
  have hl := h.len
  have ha := View.heard1_at V now k x (by omega)
  have hw := wrap_small hx.1 (by omega : x.inc ≤ 1099511627776)
  have hin := h.inc k hk
  refine ⟨⟨by rw [hm.1]; exact h.ok.me0, by rw [hm.1, hm.2]; exact h.ok.me1, by rw [hp.1]; exact h.ok.last0, by rw [hp.1, hm.2]; exact h.ok.last1, by rw [hp.2]; exact h.ok.pr0, by rw [hp.2, hm.2]; exact h.ok.pr1⟩, hm.2.trans hl, hm.1.trans h.mine, by rw [hp.2]; exact h.pr, ?_, ?_, ?_⟩
  · intro j hj
    rw [ha]
    split
    · unfold absorb
      split
      · exact hin
      · split
        · simp only [hw]; omega
        · omega
    · exact h.inc j hj
  · intro j hj hjm
    rw [ha]
    split
    · rename_i hjk
      subst hjk
      have hs := h.stamp j hj hjm
      unfold absorb
      split
      · exact hs
      · split
        · exact hs
        · rename_i hh _; omega
    · exact h.stamp j hj hjm
  · rw [ha]
    split
    · rename_i hjk
      subst hjk
      have e : decide ((me : Int) = V.me) = true := by rw [h.mine]; simp
      rw [e]
      have := h.own
      unfold absorb
      split
      · exact this
      · simp only [if_true]; exact ⟨trivial, this.2⟩
    · exact h.own
theorem Inv.heardL {me n : Nat} (now : Int) (xs : List Entry) : ∀ (V : View) (k : Nat) (r : Int), Inv V me n → (∀ x ∈ xs, 0 ≤ x.inc ∧ x.inc ≤ 3) → Inv (V.heardL now k xs r).1 me n := by
  induction xs with
  | nil => intro V k r h _; exact h
  | cons x xs ih =>
    intro V k r h hx
    have hl := h.len
    rw [View.heardL]
    split
    · exact ih _ _ _ h fun y hy => hx y (List.mem_cons_of_mem _ hy)
    · exact ih _ _ _ (h.heard1 now k (by omega) x (hx x (List.mem_cons_self ..))) fun y hy => hx y (List.mem_cons_of_mem _ hy)
theorem tableOf_inc (l : List Entry) (n : Nat) : ∀ x ∈ tableOf l n, 0 ≤ x.inc ∧ x.inc ≤ 3 := by
  intro x hx
  unfold tableOf at hx
  obtain ⟨y, _, rfl⟩ := List.mem_map.1 hx
  have := pick_range (n := y.inc) (m := 4) (by decide)
  simp only [entryOf]
  omega
theorem Inv.heard {V : View} {me n : Nat} (h : Inv V me n) (now src : Int) (ack : Bool) (l : List Entry) : Inv (V.heard now src ack (tableOf l 4)).1 me n := by
  unfold View.heard
  exact Inv.heardL now _ _ _ _ (h.acked src ack) (tableOf_inc l 4)
theorem Inv.new (me : Nat) (h : me < 4) : Inv (View.new me 4 1) me 0 := by
  have : me = 0 ∨ me = 1 ∨ me = 2 ∨ me = 3 := by omega
  rcases this with rfl | rfl | rfl | rfl <;> refine ⟨View.new_ok _ _ _, by decide, by decide, by decide, ?_, ?_, by decide⟩ <;> decide

def tellV (u v : View) : View := (v.heard 50 0 false u.tab).1
def tellU (u v : View) : View := (u.heard 50 1 true v.tab).1
/-- After a round: (u, v). -/
def round13 (p : View × View) : View × View := (tellU p.1 (tellV p.1 p.2), tellV p.1 p.2)
theorem tellV_at {u v : View} (hu : u.tab.length = 4) (hv : v.tab.length = 4) (hm : v.me = 1) (j : Nat) (hj : j < 4) : (tellV u v).at j = absorb (decide (j = 1)) (v.at j) (u.at j) := by
  unfold tellV
  rw [View.heard_tab v u 50 0 false (by omega) j (by omega), hm]
  congr 1
  rw [decide_eq_decide]; omega
theorem tellU_at {u v : View} (hu : u.tab.length = 4) (hv : v.tab.length = 4) (hm : u.me = 0) (j : Nat) (hj : j < 4) : (tellU u v).at j = absorb (decide (j = 0)) (u.at j) (v.at j) := by
  unfold tellU
  rw [View.heard_tab u v 50 1 true (by omega) j (by omega), hm]
  congr 1
  rw [decide_eq_decide]; omega
structure Two (p : View × View) : Prop where
  lu : p.1.tab.length = 4
  lv : p.2.tab.length = 4
  mu : p.1.me = 0
  mv : p.2.me = 1
theorem Two.round {p : View × View} (h : Two p) : Two (round13 p) := by
  have hv := View.heard_len p.2 50 0 false p.1.tab
  have hu := View.heard_len p.1 50 1 true (tellV p.1 p.2).tab
  exact ⟨hu.1.trans h.lu, hv.1.trans h.lv, hu.2.trans h.mu, hv.2.trans h.mv⟩
theorem Two.at {p : View × View} (h : Two p) (j : Nat) (hj : j < 4) : (round13 p).2.at j = absorb (decide (j = 1)) (p.2.at j) (p.1.at j) ∧
    (round13 p).1.at j = absorb (decide (j = 0)) (p.1.at j) (absorb (decide (j = 1)) (p.2.at j) (p.1.at j)) := by
  have h1 := tellV_at h.lu h.lv h.mv j hj
  refine ⟨h1, ?_⟩
  have h2 := tellU_at (v := tellV p.1 p.2) h.lu h.round.lv h.mu j hj
  rw [h1] at h2
  exact h2
theorem rounds_agree {u v : View} {n m : Nat} (hu : Inv u 0 n) (hv : Inv v 1 m) (hn : n ≤ 1099511627775) (hm : m ≤ 1099511627775) :
    (round13 (round13 (round13 (u, v)))).1.tab = (round13 (round13 (round13 (u, v)))).2.tab ∧ (round13 (round13 (round13 (u, v)))).1.tab.length = 4 ∧
    ((round13 (round13 (round13 (u, v)))).1.at 0).status = 0 ∧ ((round13 (round13 (round13 (u, v)))).1.at 1).status = 0 := by
  have t0 : Two (u, v) := ⟨hu.len, hv.len, hu.mine, hv.mine⟩
  have t1 := t0.round
  have t2 := t1.round
  have t3 := t2.round
  have hU : ∀ j, j < 4 → 0 ≤ (u.at j).inc ∧ (u.at j).inc < 1000 ∧ (u.at j).stamp < 1099511627776 := by
    intro j hj
    have h1 := hu.inc j hj
    refine ⟨h1.1, by omega, ?_⟩
    by_cases h0 : j = 0
    · subst h0; have := hu.own; omega
    · exact hu.stamp j hj h0
  have hV : ∀ j, j < 4 → 0 ≤ (v.at j).inc ∧ (v.at j).inc < 1000 ∧ (v.at j).stamp < 1099511627776 := by
    intro j hj
    have h1 := hv.inc j hj
    refine ⟨h1.1, by omega, ?_⟩
    by_cases h0 : j = 1
    · subst h0; have := hv.own; omega
    · exact hv.stamp j hj h0
  have same : ∀ p : View × View, Two p → ∀ j, j < 4 → p.1.at j = p.2.at j → (round13 p).1.at j = p.1.at j ∧ (round13 p).2.at j = p.1.at j := by
    intro p hp j hj he
    have := hp.at j hj
    rw [this.1, this.2, he, absorb_self, absorb_self]
    exact ⟨rfl, rfl⟩
  have main : ∀ j, j < 4 → ∃ z, (round13 (round13 (u, v))).1.at j = z ∧ (round13 (round13 (u, v))).2.at j = z ∧ (j = 0 → z.status = 0) ∧ (j = 1 → z.status = 0) := by
    intro j hj
    have a1 := t0.at j hj
    simp only at a1
    by_cases h0 : j = 0
    · subst h0
      obtain ⟨z, z1, z2, z3⟩ := round_two (hU 0 hj) (hV 0 hj)
      have a2 := t1.at 0 hj
      rw [a1.1, a1.2] at a2
      have e0 : decide ((0 : Nat) = 1) = false := rfl
      have e1 : decide ((0 : Nat) = 0) = true := rfl
      rw [e0, e1, z1] at a2
      refine ⟨z, by rw [a2.2, z2], a2.1, fun _ => ?_, by omega⟩
      rw [← z3]
      exact absorb_status hu.own.1
    · have e0 : decide (j = 0) = false := by simp [h0]
      rw [e0] at a1
      have key : absorb false (u.at j) (absorb (decide (j = 1)) (v.at j) (u.at j)) = absorb (decide (j = 1)) (v.at j) (u.at j) := by
        by_cases h1 : j = 1
        · have e1 : decide (j = 1) = true := by simp [h1]
          rw [e1]
          exact round_own (hU j hj) (hV j hj).2
        · have e1 : decide (j = 1) = false := by simp [h1]
          rw [e1]
          exact round_other ⟨by have := hU j hj; omega, (hU j hj).2.2⟩ ⟨by have := hV j hj; omega, (hV j hj).2.2⟩
      rw [key] at a1
      have s := same _ t1 j hj (a1.2.trans a1.1.symm)
      refine ⟨_, s.1.trans a1.2, s.2.trans a1.2, fun h => absurd h h0, fun h => ?_⟩
      subst h
      exact absorb_status hv.own.1
  have fin : ∀ j, j < 4 → (round13 (round13 (round13 (u, v)))).1.at j = (round13 (round13 (u, v))).1.at j ∧ (round13 (round13 (round13 (u, v)))).2.at j = (round13 (round13 (u, v))).1.at j := by
    intro j hj
    obtain ⟨z, z1, z2, _⟩ := main j hj
    exact same _ t2 j hj (z1.trans z2.symm)
  refine ⟨tab_ext (by rw [t3.lu, t3.lv]) fun j hj => ?_, t3.lu, ?_, ?_⟩
  · rw [t3.lu] at hj
    rw [(fin j hj).1, (fin j hj).2]
  · obtain ⟨z, z1, _, z3, _⟩ := main 0 (by omega)
    rw [(fin 0 (by omega)).1, z1]
    exact z3 rfl
  · obtain ⟨z, z1, _, _, z3⟩ := main 1 (by omega)
    rw [(fin 1 (by omega)).1, z1]
    exact z3 rfl
end Go.Osm
