/- The view: contracts of Tick, Table, Here, Entry, New. -/
import Derived.Test.YtmonbigaldamfaaV
namespace Go.Proofs.Ytmonbigaldamfaa
open Go.RowKit Go.Osm

set_option maxRecDepth 100000 in
set_option maxHeartbeats 4000000 in
theorem view_tick (V : View) (g gs gt : Nat) (w : World) (hV : VA w g gs gt V) (hO : V.Ok) (now load : Int) (drain : Bool) :
    Calls Try.prog 15 #[.pointer (some ⟨g, 0, none⟩), .int .i64 now, .int .i64 load, .bool drain] w fun e w' =>
      e = .returned (.tuple #[.int .i64 (V.tick now load drain).2.1, .bool (V.tick now load drain).2.2]) ∧ VA w' g gs gt (V.tick now load drain).1 ∧ Chg [g, gs, gt] w w' := by
  obtain ⟨c0, c1, c2, c3, c4, c5⟩ := hV.c; have f0 := hV.f; have f1 := hV.fs; have f2 := hV.ft; have hs := hV.small; have lg := blk_lt hV.blk; have ls := blk_lt hV.bs; have lt := blk_lt hV.bt; have n1 : g ≠ gs := blk_ne hV.blk hV.bs (by decide); have n2 : g ≠ gt := blk_ne hV.blk hV.bt (by decide); have n3 : gs ≠ gt := blk_ne hV.bs hV.bt (by decide)
  obtain ⟨me, hme⟩ : ∃ me : Nat, V.me = me := ⟨V.me.toNat, by have := hO.me0; omega⟩
  have hml : me < V.tab.length := by have := hO.me1; omega
  obtain ⟨e0, e1, e2, e3, e4⟩ := hV.ct me hml
  rw [hme] at c0
  have HME := Lib.hid hme
  clear hme
  go_enter Try.func15, Try.ntmps15
  go_wp2
  go_region
  go_wp2
  have hV1 : VA ((((w.setCell ⟨gt, me * 5 + 2, none⟩ (.int .i64 (wrap64 ((V.at me).stamp + 1)))).setCell ⟨gt, me * 5 + 3, none⟩ (.int .i64 load)).setCell ⟨gt, me * 5 + 4, none⟩ (.bool drain)).drew) g gs gt (V.tickOwn load drain) := by
    have h1 := hV.tab_cell n2 n3 me hml 2 (by omega) (.int .i64 (wrap64 ((V.at me).stamp + 1))) { V.at me with stamp := wrap64 ((V.at me).stamp + 1) } (by simp [View.at, hml, Entry.cells])
    have h2 := h1.tab_cell n2 n3 me (by simpa using hml) 3 (by omega) (.int .i64 load) { V.at me with stamp := wrap64 ((V.at me).stamp + 1), load := load } (by simp [Entry.cells])
    have h3 := h2.tab_cell n2 n3 me (by simpa using hml) 4 (by omega) (.bool drain) { V.at me with stamp := wrap64 ((V.at me).stamp + 1), load := load, drain := drain } (by simp [Entry.cells])
    have e : V.me.toNat = me := by have := HME.out; omega
    unfold View.tickOwn
    rw [e]
    exact ViewAt.drew (by simpa [List.set_set] using h3)
  have hc1 : Chg [g, gs, gt] w ((((w.setCell ⟨gt, me * 5 + 2, none⟩ (.int .i64 (wrap64 ((V.at me).stamp + 1)))).setCell ⟨gt, me * 5 + 3, none⟩ (.int .i64 load)).setCell ⟨gt, me * 5 + 4, none⟩ (.bool drain)).drew) := by (repeat (first | with_reducible exact Chg.refl _ _ | with_reducible refine Chg.drew ?_ | with_reducible refine Chg.alloc ?_ _ | with_reducible refine Chg.setCell ?_ (.inl (by simp)) _ | with_reducible refine Chg.setCell ?_ (.inr (by simp <;> omega)) _))
  have hk1 : (V.tickOwn load drain).me = V.me ∧ (V.tickOwn load drain).last = V.last ∧ (V.tickOwn load drain).probed = V.probed ∧ (V.tickOwn load drain).tab.length = V.tab.length := by simp [View.tickOwn]
  have HK1 := Lib.hid hk1
  have HV1 := Lib.hid hV1
  have HC1 := Lib.hid hc1
  clear hk1 hV1 hc1 e0 e1 e2 e3 e4 c0 c1 c2 c3 c4 c5 hV lg ls lt f0 f1 f2
  go_loopw [42] (fun i wr => ∃ (k : Nat) (V' : View), k ≤ V.tab.length ∧ i = .int .i64 k ∧ VA wr g gs gt V' ∧ Chg [g, gs, gt] w wr ∧
      Hid ((V.tickOwn load drain).deadL now 0 V.tab.length = V'.deadL now k (V.tab.length - k) ∧ V'.me = V.me ∧ V'.last = V.last ∧ V'.probed = V.probed ∧ V'.tab.length = V.tab.length)) (fun i _ => V.tab.length - (intOf i).toNat)
  case atStart => exact ⟨0, _, Nat.zero_le _, rfl, HV1.out, HC1.out, Lib.hid ⟨rfl, HK1.out.1, HK1.out.2.1, HK1.out.2.2.1, HK1.out.2.2.2⟩⟩
  case round =>
    obtain ⟨k, V', hk, rfl, hV, hc, HM⟩ := hrel
    clear HV1 HC1
    obtain ⟨c0, c1, c2, c3, c4, c5⟩ := hV.c
    have f0 := hV.f
    have f1 := hV.fs
    have f2 := hV.ft
    have lg := blk_lt hV.blk
    have ls := blk_lt hV.bs
    have lt := blk_lt hV.bt
    have hl : V'.tab.length = V.tab.length := HM.out.2.2.2.2
    rw [hl] at c4 c5
    have hm2 : V'.me = me := by rw [HM.out.2.1]; exact HME.out
    rw [hm2] at c0
    have HL := Lib.hid hl
    have HM2 := Lib.hid hm2
    clear hl hm2
    by_cases hlt : k < V.tab.length
    · have hkl : k < V'.tab.length := by rw [HL.out]; exact hlt
      obtain ⟨e0, e1, e2, e3, e4⟩ := hV.ct k hkl
      have d := hV.cs k hkl
      have hstep : Hid (V'.deadL now k (V.tab.length - k) = (V'.dead1 now k).deadL now (k + 1) (V.tab.length - (k + 1))) := by
        rw [show V.tab.length - k = (V.tab.length - (k + 1)) + 1 by omega]; rfl
      have hkeep := Lib.hid (View.dead1_keeps V' now k)
      go_wp2_with (go_at_call 33; refine (view_judge V' g gs gt _ (hV.alloc _) now k hkl 2).mono ?_; rintro e w1 ⟨rfl, hV1, hj⟩)
      · have hd : V'.dead1 now k = V' := by unfold View.dead1; rw [if_neg (by have := HM2.out; omega)]
        rw [hd] at hstep
        go_roundw
        case rel => exact ⟨k + 1, V', by omega, by go_num, hV.alloc _, hc.alloc _, Lib.hid ⟨HM.out.1.trans hstep.out, HM.out.2⟩⟩
        case measure => simp [intOf]; omega
      · have hd : V'.dead1 now k = V'.judge now k 2 := by unfold View.dead1; rw [if_pos (by have := HM2.out; simp_all)]
        rw [hd] at hstep hkeep
        go_roundw
        case rel =>
          have K := hkeep.out
          have M := HM.out
          exact ⟨k + 1, _, by omega, by go_num, hV1, (hc.alloc _).trans hj, Lib.hid ⟨M.1.trans hstep.out, K.1.trans M.2.1, K.2.1.trans M.2.2.1, K.2.2.1.trans M.2.2.2.1, K.2.2.2.2.trans M.2.2.2.2⟩⟩
        case measure => simp [intOf]; omega
      · have hd : V'.dead1 now k = V' := by unfold View.dead1; rw [if_neg (by have := HM2.out; simp_all)]
        rw [hd] at hstep
        go_roundw
        case rel => exact ⟨k + 1, V', by omega, by go_num, hV.alloc _, hc.alloc _, Lib.hid ⟨HM.out.1.trans hstep.out, HM.out.2⟩⟩
        case measure => simp [intOf]; omega
      · have hd : V'.dead1 now k = V' := by unfold View.dead1; rw [if_neg (by have := HM2.out; simp_all)]
        rw [hd] at hstep
        go_roundw
        case rel => exact ⟨k + 1, V', by omega, by go_num, hV.alloc _, hc.alloc _, Lib.hid ⟨HM.out.1.trans hstep.out, HM.out.2⟩⟩
        case measure => simp [intOf]; omega
    · have hkn : k = V.tab.length := by omega
      subst hkn
      have HV2 : Hid ((V.tickOwn load drain).deadL now 0 V.tab.length = V') := by have := HM.out.1; rw [Nat.sub_self] at this; exact this
      obtain ⟨p, hp⟩ : ∃ p, V'.probed = p := ⟨_, rfl⟩
      rw [hp] at c2
      have hpr : p = V.probed := by rw [← hp]; exact HM.out.2.2.2.1
      have HP := Lib.hid hp
      have HPR := Lib.hid hpr
      have hp0 := hO.pr0
      have hp9 := hO.pr1
      rw [← hpr] at hp0 hp9
      clear hp hpr hO
      go_upto_region 10 with fail
      go_cut [88] (fun s88 wx => s88 = .bool (V'.over now) ∧ wr = wx)
      case first =>
        by_cases hp1 : p = -1
        · go_wp2
          go_meet
          case rel => exact ⟨by have := HP.out; simp_all [View.over], rfl⟩
        · have hp2 : (p != -1) = true := by simpa using hp1
          go_wp2
          go_meet
          case rel => exact ⟨by have := HP.out; simp_all [View.over], rfl⟩
      obtain ⟨rfl, rfl⟩ := hcut
      go_upto_if 88 with fail
      go_cut [] (fun wx => VA wx g gs gt (V'.lapse now) ∧ Chg [g, gs, gt] w wx)
      case first =>
        go_wp2
        · have hb : V'.over now = true := by assumption
          have hp1 : p ≠ -1 := by intro e; rw [View.over, HP.out, e] at hb; simp at hb
          obtain ⟨pn, hpn⟩ : ∃ pn : Nat, p = pn := ⟨p.toNat, by omega⟩
          subst hpn
          have hpl : pn < V'.tab.length := by rw [HL.out]; omega
          obtain ⟨e0, e1, e2, e3, e4⟩ := hV.ct pn hpl
          have he : V'.lapse now = { (if (V'.at pn).status = 0 then V'.judge now pn 1 else V') with probed := -1 } := by
            unfold View.lapse
            rw [if_pos hb, show V'.probed.toNat = pn by rw [HP.out]; rfl]
          have HE := Lib.hid he
          clear he
          go_quiet (fail)
          go_wp2_with (go_at_call 33; refine (view_judge V' g gs gt _ (hV.drewN _) now pn hpl 1).mono ?_; rintro e w1 ⟨rfl, hV1, hj⟩; obtain ⟨p0, p1, p2, p3, p4, p5⟩ := hV1.c; have q0 := hV1.f; have l0 := blk_lt hV1.blk)
          · go_meet
            case rel =>
              have hz : (V'.at pn).status = 0 := by simpa using (show ((V'.at pn).status == 0) = true by assumption)
              rw [HE.out, if_pos hz]
              exact ⟨hV1.probe n1 n2 _, ((hc.drewN _).trans hj).setCell (.inl (by simp)) _⟩
          · go_meet
            case rel =>
              have hz : ¬ (V'.at pn).status = 0 := by simpa using (show ((V'.at pn).status == 0) = false by assumption)
              rw [HE.out, if_neg hz]
              exact ⟨(hV.drewN _).probe n1 n2 _, (hc.drewN _).setCell (.inl (by simp)) _⟩
        · have hb : V'.over now = false := by assumption
          go_meet
          case rel =>
            have e : V'.lapse now = V' := by unfold View.lapse; rw [if_neg (by simp [hb])]
            rw [e]
            exact ⟨hV, hc⟩
      case rest =>
        obtain ⟨hV3, hc3⟩ := hcut
        clear c0 c1 c2 c3 c4 c5 f0 f1 f2 lg ls lt
        have hl3 : (V'.lapse now).tab.length = V.tab.length := (View.lapse_keeps V' now).2.2.trans HL.out
        have ht : V.tick now load drain = (V'.lapse now).ping now := by unfold View.tick; rw [HV2.out]
        obtain ⟨V3, h3⟩ : ∃ V3, V3 = V'.lapse now := ⟨_, rfl⟩
        rw [← h3] at hV3 hl3 ht
        have HT := Lib.hid ht
        have HL3 := Lib.hid hl3
        obtain ⟨c0, c1, c2, c3, c4, c5⟩ := hV3.c
        rw [hl3] at c4 c5
        clear ht hl3 h3
        have f0 := hV3.f
        have lg := blk_lt hV3.blk
        have hpos : 0 < V3.tab.length := by rw [HL3.out]; omega
        by_cases hA : V3.probed = -1
        · by_cases hB : V.tab.length = 1
          · have hP : V3.ping now = (V3, 0, false) := by unfold View.ping; rw [if_pos (.inr (by rw [HL3.out]; exact hB))]
            have HP9 := Lib.hid hP
            clear hP
            go_wp2
            go_ret2
            rw [HT.out, HP9.out]
            exact ⟨rfl, hV3, hc3⟩
          · have hP : V3.ping now = ({ V3 with last := V3.next, probed := V3.next, since := now }, V3.next, true) := by unfold View.ping; rw [if_neg (by rw [HL3.out]; simp [hA, hB])]
            have HP9 := Lib.hid hP
            clear hP
            have hB' : ((V.tab.length : Int) == 1) = false := by simp; omega
            go_wp2_with (go_at_call 34; refine (view_next V3 g gs gt _ hV3 hpos).mono ?_; rintro e w1 ⟨rfl, rfl⟩)
            go_ret2
            rw [HT.out, HP9.out]
            refine ⟨rfl, ?_, ?_⟩
            · exact ((hV3.lastc n1 n2 V3.next).probe n1 n2 V3.next).sincec n1 n2 now
            · (repeat (first | with_reducible refine Chg.drew ?_ | with_reducible refine Chg.alloc ?_ _ | with_reducible refine Chg.setCell ?_ (.inl (by simp)) _ | with_reducible refine Chg.setCell ?_ (.inr (by simp <;> omega)) _))
              exact hc3
        · have hP : V3.ping now = (V3, 0, false) := by unfold View.ping; rw [if_pos (.inl hA)]
          have HP9 := Lib.hid hP
          clear hP
          have hA' : (V3.probed != -1) = true := by simpa using hA
          go_wp2
          go_ret2
          rw [HT.out, HP9.out]
          exact ⟨rfl, hV3, hc3⟩
end Go.Proofs.Ytmonbigaldamfaa
