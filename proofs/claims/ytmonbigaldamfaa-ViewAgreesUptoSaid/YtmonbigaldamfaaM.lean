/- The functions' answers, as plain Lean: no program, no memory. -/
import Derived.Test.YtmonbigaldamfaaBase
namespace Go.Osm
open Go.RowKit

def cmpI (x y : Int) : Int := if x < y then -1 else if y < x then 1 else 0
def bitI (b : Bool) : Int := if b then 1 else 0
/-- cmp.Or: the first that is not nought. -/
def orI : List Int → Int
  | [] => 0
  | x :: r => if x = 0 then orI r else x
theorem orI_drop (xs : List Int) (k : Nat) (h : k < xs.length) : orI (xs.drop k) = if xs[k] = 0 then orI (xs.drop (k + 1)) else xs[k] := by
  rw [List.drop_eq_getElem_cons h]; rfl
/-- An entry of a view. -/
def compareE (a b : Entry) : Int := orI [cmpI a.inc b.inc, cmpI a.status b.status, cmpI a.stamp b.stamp, cmpI a.load b.load, cmpI (bitI a.drain) (bitI b.drain)]
def lessE (a b : Entry) : Bool := decide (compareE a b < 0)

structure View where
  me : Int
  last : Int
  probed : Int
  since : Int
  susp : List Int
  tab : List Entry
def View.at (V : View) (k : Nat) : Entry := V.tab.getD k Entry.zero
def View.sus (V : View) (k : Nat) : Int := V.susp.getD k 0
def View.setE (V : View) (now : Int) (k : Nat) (x : Entry) : View :=
  { V with susp := if x.status = 1 ∧ ((V.at k).status ≠ 1 ∨ (V.at k).inc ≠ x.inc) then V.susp.set k now else V.susp, tab := V.tab.set k x }
def View.judge (V : View) (now : Int) (k : Nat) (st : Int) : View := V.setE now k { V.at k with status := st }
def View.next (V : View) : Int :=
  let k := (wrap64 (V.last + 1)).tmod V.tab.length
  if k = V.me then (wrap64 (k + 1)).tmod V.tab.length else k
def View.heard1 (V : View) (now : Int) (k : Nat) (x : Entry) : View × Option Int :=
  if x.inc ≥ 1099511627776 ∨ x.stamp ≥ 1099511627776 ∨ lessE (V.at k) x = false then (V, none)
  else if (k : Int) = V.me then ({ V with tab := V.tab.set k { V.at k with inc := wrap64 (x.inc + 1), status := 0 } }, some (wrap64 (x.inc + 1)))
  else (V.setE now k x, none)
def View.heardL (V : View) (now : Int) : Nat → List Entry → Int → View × Int
  | _, [], r => (V, r)
  | k, x :: xs, r => if V.tab.length ≤ k then V.heardL now (k + 1) xs r else (V.heard1 now k x).1.heardL now (k + 1) xs ((V.heard1 now k x).2.getD r)
def View.acked (V : View) (src : Int) (ack : Bool) : View := if ack = true ∧ src = V.probed then { V with probed := -1 } else V
def View.heard (V : View) (now src : Int) (ack : Bool) (xs : List Entry) : View × Int := (V.acked src ack).heardL now 0 xs 0
theorem View.heardL_step (V : View) (now : Int) (k : Nat) (xs : List Entry) (r : Int) (hk : k < xs.length) :
    V.heardL now k (xs.drop k) r = if V.tab.length ≤ k then V.heardL now (k + 1) (xs.drop (k + 1)) r else (V.heard1 now k xs[k]).1.heardL now (k + 1) (xs.drop (k + 1)) ((V.heard1 now k xs[k]).2.getD r) := by
  rw [List.drop_eq_getElem_cons hk]; rfl
theorem View.setE_me (V : View) (now : Int) (k : Nat) (x : Entry) : (V.setE now k x).me = V.me ∧ (V.setE now k x).tab.length = V.tab.length := ⟨rfl, by simp [View.setE]⟩
theorem View.heard1_me (V : View) (now : Int) (k : Nat) (x : Entry) : (V.heard1 now k x).1.me = V.me ∧ (V.heard1 now k x).1.tab.length = V.tab.length := by
  unfold View.heard1
  split
  · exact ⟨rfl, rfl⟩
  · split
    · exact ⟨rfl, by simp⟩
    · exact View.setE_me ..
theorem View.heard1_own {V : View} {now : Int} {k : Nat} {x : Entry} (h1 : x.inc < 1099511627776) (h2 : x.stamp < 1099511627776) (h3 : (!lessE (V.at k) x) = false) (h4 : ((k : Int) == V.me) = true) :
    V.heard1 now k x = ({ V with tab := V.tab.set k { V.at k with inc := wrap64 (x.inc + 1), status := 0 } }, some (wrap64 (x.inc + 1))) := by
  unfold View.heard1
  rw [if_neg (by simp at h3; simp [h3]; omega), if_pos (by simpa using h4)]
theorem View.heard1_other {V : View} {now : Int} {k : Nat} {x : Entry} (h1 : x.inc < 1099511627776) (h2 : x.stamp < 1099511627776) (h3 : (!lessE (V.at k) x) = false) (h4 : ((k : Int) == V.me) = false) :
    V.heard1 now k x = (V.setE now k x, none) := by
  unfold View.heard1
  rw [if_neg (by simp at h3; simp [h3]; omega), if_neg (by simpa using h4)]
def View.tickOwn (V : View) (load : Int) (drain : Bool) : View :=
  { V with tab := V.tab.set V.me.toNat { V.at V.me.toNat with stamp := wrap64 ((V.at V.me.toNat).stamp + 1), load := load, drain := drain } }
def View.dead1 (V : View) (now : Int) (k : Nat) : View := if (k : Int) ≠ V.me ∧ (V.at k).status = 1 ∧ 8 ≤ wrap64 (now - V.sus k) then V.judge now k 2 else V
def View.deadL (V : View) (now : Int) : Nat → Nat → View
  | _, 0 => V
  | k, m + 1 => (V.dead1 now k).deadL now (k + 1) m
def View.over (V : View) (now : Int) : Bool := V.probed != -1 && decide (4 ≤ wrap64 (now - V.since))
def View.lapse (V : View) (now : Int) : View :=
  if V.over now = true then { (if (V.at V.probed.toNat).status = 0 then V.judge now V.probed.toNat 1 else V) with probed := -1 } else V
def View.ping (V : View) (now : Int) : View × Int × Bool :=
  if V.probed ≠ -1 ∨ V.tab.length = 1 then (V, 0, false) else ({ V with last := V.next, probed := V.next, since := now }, V.next, true)
def View.tick (V : View) (now load : Int) (drain : Bool) : View × Int × Bool := (((V.tickOwn load drain).deadL now 0 V.tab.length).lapse now).ping now
/-- What holds of every view that was made by New. -/
structure View.Ok (V : View) : Prop where
  me0 : 0 ≤ V.me
  me1 : V.me < V.tab.length
  last0 : 0 ≤ V.last
  last1 : V.last < V.tab.length
  pr0 : -1 ≤ V.probed
  pr1 : V.probed < V.tab.length
theorem View.judge_keeps (V : View) (now : Int) (k : Nat) (st : Int) : (V.judge now k st).me = V.me ∧ (V.judge now k st).last = V.last ∧ (V.judge now k st).probed = V.probed ∧ (V.judge now k st).since = V.since ∧ (V.judge now k st).tab.length = V.tab.length := by
  simp [View.judge, View.setE]
theorem View.dead1_keeps (V : View) (now : Int) (k : Nat) : (V.dead1 now k).me = V.me ∧ (V.dead1 now k).last = V.last ∧ (V.dead1 now k).probed = V.probed ∧ (V.dead1 now k).since = V.since ∧ (V.dead1 now k).tab.length = V.tab.length := by
  unfold View.dead1
  split
  · exact View.judge_keeps ..
  · exact ⟨rfl, rfl, rfl, rfl, rfl⟩
theorem View.lapse_keeps (V : View) (now : Int) : (V.lapse now).me = V.me ∧ (V.lapse now).last = V.last ∧ (V.lapse now).tab.length = V.tab.length := by
  unfold View.lapse
  split
  · split
    · have := View.judge_keeps V now V.probed.toNat 1
      exact ⟨this.1, this.2.1, this.2.2.2.2⟩
    · exact ⟨rfl, rfl, rfl⟩
  · exact ⟨rfl, rfl, rfl⟩
def View.hereTo (V : View) (k : Nat) : List Int := ((List.range k).filter fun k => (V.at k).status != 2).map Int.ofNat
def View.here (V : View) : List Int := V.hereTo V.tab.length
theorem View.hereTo_succ (V : View) (k : Nat) : V.hereTo (k + 1) = if (V.at k).status != 2 then V.hereTo k ++ [(k : Int)] else V.hereTo k := by
  unfold View.hereTo
  rw [List.range_succ, List.filter_append]
  by_cases h : (V.at k).status != 2 <;> simp [h]
theorem View.hereTo_len (V : View) (k : Nat) : (V.hereTo k).length ≤ k := by
  unfold View.hereTo
  rw [List.length_map]
  exact Nat.le_trans (List.length_filter_le ..) (by simp)
def entryOf (x : Entry) : Entry := ⟨pick x.inc 4, pick x.status 3, if pick x.inc 19 = 18 then may x.stamp else pick x.stamp 5, pick x.load 12, x.drain⟩
def tableOf (l : List Entry) (n : Nat) : List Entry := (l.take n).map entryOf
def View.new (me hosts inc : Int) : View :=
  let n := max 1 (min hosts 5)
  let m := max 0 (min me (n - 1))
  { me := m, last := m, probed := -1, since := 0, susp := List.replicate n.toNat 0, tab := (List.replicate n.toNat Entry.zero).set m.toNat { Entry.zero with inc := inc } }
theorem View.new_ok (me hosts inc : Int) : (View.new me hosts inc).Ok := by
  unfold View.new
  constructor <;> simp <;> omega
theorem View.heardL_len (now : Int) (xs : List Entry) : ∀ (V : View) (k : Nat) (r : Int), (V.heardL now k xs r).1.tab.length = V.tab.length ∧ (V.heardL now k xs r).1.me = V.me := by
  induction xs with
  | nil => intro V k r; exact ⟨rfl, rfl⟩
  | cons x xs ih =>
    intro V k r
    rw [View.heardL]
    split
    · exact ih ..
    · have h := View.heard1_me V now k x
      exact ⟨(ih ..).1.trans h.2, (ih ..).2.trans h.1⟩
theorem View.heard_len (V : View) (now src : Int) (ack : Bool) (xs : List Entry) : (V.heard now src ack xs).1.tab.length = V.tab.length ∧ (V.heard now src ack xs).1.me = V.me := by
  have h := View.heardL_len now xs (V.acked src ack) 0 0
  have e : (V.acked src ack).tab.length = V.tab.length ∧ (V.acked src ack).me = V.me := by unfold View.acked; split <;> exact ⟨rfl, rfl⟩
  exact ⟨h.1.trans e.1, h.2.trans e.2⟩
end Go.Osm
