/- GatesPlay: every states that are set, in every order. -/
import Derived.Test.YtacemlbfifhllaaGreatX47GatesPlay
import Derived.Test.YtacemlbfifhllaaGreatX48GatesPlay
import Derived.Deep.RegionHeld3
set_option linter.unusedVariables false
set_option linter.unusedSimpArgs false
namespace Go.Proofs.YtacemlbfifhllaaGreat
open Go.RowKit Go.Maps Go.Deep

theorem bel_then {w w1 w2 : World} (h : Below w.heap.size w w1) (hb : Below w1.heap.size w1 w2) : Below w.heap.size w w2 := belows_then h h.size hb

set_option maxHeartbeats 16000000 in
set_option maxRecDepth 100000 in
theorem gatesPlay_any (ops : List Gop) (oa : Option Addr) (oc : Nat) (entity period : Int) (he : I64 entity) (hp : I64 period) (w : World) {F : Nat → Prop} (hs : Sl tGop w F oa ops) (hl : ops.length ≤ maxLen) :
    Calls Tryz.prog 3 #[.slice oa ops.length oc, .int .i64 entity, .int .i64 period] w fun en w' => en = .returned (.bool true) ∧ Below w.heap.size w w' := by
  have HOPS := Lib.hid hs
  have HEN := Lib.hid (And.intro he hp)
  have hl' : ops.length ≤ 9223372036854775807 := by unfold maxLen at hl; omega
  clear hs he hp hl
  rcases (show 50 < ops.length ∨ ops.length ≤ 50 by omega) with h50 | h50
  · go_enter Tryz.func3, Tryz.ntmps3
    go_wp2_with fail
    refine (g5alive_any _).mono ?_
    rintro en w1 ⟨rfl, hb⟩
    have HB1 := Lib.hid hb
    clear hb
    go_wp2_with fail
    go_ret
    exact ⟨rfl, HB1.out⟩
  · go_enter Tryz.func3, Tryz.ntmps3
    go_wp2_with fail
    refine (g5alive_any _).mono ?_
    rintro en w1 ⟨rfl, hb⟩
    have HB1 := Lib.hid hb
    clear hb
    go_wp2_with fail
    refine abs_world (S := fun wx => PlayS w1 wx (w1.heap.size + 1) w1.heap.size none [] (.slice none 0 0) (.slice none 0 0) [] [] [] none []) ?_ (PlayS.begin w1 _ (((Below.refl _ _).alloc (Nat.le_refl _) _).alloc (by simp) _) (blk_alloc (blk_new _ _) _) (by have := blk_new (w1.alloc (.cells #[.map none] 27)) (.cells (bookT (.slice none 0 0) (.slice none 0 0)) 41); simpa [bookT] using this))
    rintro w3 hP
    have HP0 := Lib.hid hP
    clear hP
    obtain ⟨b, hbq⟩ : ∃ b, w1.heap.size + 1 = b := ⟨_, rfl⟩
    rw [hbq] at HP0
    simp only [hbq]
    have HBQ := Lib.hid hbq
    clear hbq
    go_wp2_with fail
    go_loopw [7, 8, 10, 11, 12, 13, 14, 15, 16] (fun v7 v8 v10 v11 v12 v13 v14 v15 v16 wr => ∃ (n g : Nat) (r : Option Nat) (l : Gs) (s t : Value) (vs us : List Value) (L : List (List Gt)) (ra : Option Addr) (rc : Nat) (R : List Gt), v7 = .pointer (some ⟨g, 0, none⟩) ∧ v8 = .slice ra R.length rc ∧ v10 = .int .i64 n ∧ n ≤ ops.length ∧ Hid (PlayS w1 wr b g r l s t vs us L ra R) ∧ Hid (GInv l R) ∧ Hid (vs.length = n ∧ R.length ≤ n ∧ l.length ≤ n) ∧ Hid (∀ (i : Nat) (m : List Gt), L[i]? = some m → m.length ≤ 100000)) (fun _ _ v10 _ _ _ _ _ _ _ => ops.length - (Go.RowKit.intOf v10).toNat)
    case atStart => exact ⟨0, w1.heap.size, none, [], _, _, [], [], [], none, 0, [], rfl, rfl, rfl, Nat.zero_le _, HP0, Lib.hid GInv.nil, Lib.hid (by simp), Lib.hid (by simp)⟩
    case round =>
      obtain ⟨n, g, r, l, s, t, vs, us, L, ra, rc, R, rfl, rfl, rfl, hn, HP, HI, HL, HLL⟩ := hrel
      rename World => wo
      by_cases hlt : n < ops.length
      · have hbo := bel_then HB1.out HP.out.below
        obtain ⟨ad, rfl, hadl, hc0, hc1, hc2, hc3, g1, g2, g3⟩ := gop_at (Sl.keep (fun k hk _ => hbo.block k hk) HOPS.out) n hlt
        obtain ⟨⟨oe, op, os, cp⟩, ho⟩ : ∃ o, ops[n] = o := ⟨_, rfl⟩
        rw [ho] at hc0 hc1 hc2 hc3 g1 g2 g3
        simp only at hc0 hc1 hc2 hc3 g1 g2 g3
        have HOI := Lib.hid (And.intro g1 (And.intro g2 g3))
        have HFO := Lib.hid (HP.out.kept.far_new (Nat.le_refl wo.heap.size))
        have hgl := HP.out.gl
        clear hbo ho g1 g2 g3
        cases cp
        · skip
          have HO1 := Lib.hid (blk_new wo (.cells #[.int .i64 oe, .int .i64 op, .int .i64 os, .bool false] 43))
          have HP1 := Lib.hid (HP.out.call ((Below.refl wo.heap.size wo).alloc (Nat.le_refl _) (.cells #[.int .i64 oe, .int .i64 op, .int .i64 os, .bool false] 43)))
          have hco := blk_cells HO1.out
          have HC := Lib.hid (rSetGate_any R ra rc (wo.alloc (.cells #[.int .i64 oe, .int .i64 op, .int .i64 os, .bool false] 43)) HP1.out.ref (by have := HL.out; omega) oe op os HOI.out.1 HOI.out.2.1 HOI.out.2.2)
          clear hgl
          go_wp2_with fail
          refine HC.out.mono ?_
          rintro en w4 ⟨⟨v4, rfl, hv4⟩, hb⟩
          have HB4 := Lib.hid hb
          have HO4 := Lib.hid (blk_below HO1.out hb)
          have hco4 := blk_cells HO4.out
          have HER := Lib.hid (HI.out.err (oe, op, os))
          simp only at HER
          have hgl4 := (HP1.out.call hb).gl
          clear hb HC hco hc0 hc1 hc2 hc3 hadl
          rcases hv4 with ⟨hz, hown⟩ | ⟨hz, rfl⟩
          · obtain ⟨ra2, rc2, rfl, _, _, hs4⟩ := OwnL.slice_free gate_free hown
            have HP4 := Lib.hid (HP1.out.refd HB4.out (Sl.mono (fun k _ h => h.1) hs4))
            have HI2 := Lib.hid (HI.out.set (oe, op, os) hz)
            have hz2 : setE l oe op os = 0 := by have := HER.out; omega
            have HST := Lib.hid (set_any HP4.out.gates oe op os HOI.out.1 HOI.out.2.1)
            have HZ2 := Lib.hid hz2
            rw [hz]
            clear hs4 hown hz hz2
            go_wp2_with fail
            refine HST.out.mono ?_
            rintro en w7 ⟨rfl, hbu, r2, hg7, hr7⟩
            rw [HZ2.out] at hg7 ⊢
            have HPX := Lib.hid (HP4.out.set hbu (by simpa using hg7) hr7)
            have HOB := Lib.hid ((hbu.block _ (blk_lt HO4.out) (fun hh => by
              rcases hh with hh | hh
              · exact absurd hh (by have := HP.out.gl; omega)
              · exact absurd hh (fun e => by have := HP.out.gl.2 _ e; omega))).trans HO4.out)
            have HIX : Hid (GInv (setL l oe op os) (gSetR R (oe, op, os))) := HI2
            have HLX : Hid (vs.length = n ∧ (gSetR R (oe, op, os)).length ≤ n + 1 ∧ (setL l oe op os).length ≤ n + 1) := Lib.hid (by have := HL.out; have := gSetR_len R (oe, op, os); have := setL_len l oe op os; omega)
            obtain ⟨l2, hl2⟩ : ∃ l2, setL l oe op os = l2 := ⟨_, rfl⟩
            obtain ⟨R2, hR2⟩ : ∃ R2, gSetR R (oe, op, os) = R2 := ⟨_, rfl⟩
            rw [hl2] at HPX HIX HLX
            rw [hR2] at HPX HIX HLX ⊢
            clear hbu hg7 hr7 hl2 hR2 HST HP4 HI2 HO4 HO1 HP1 HER hgl4 hco4 HZ2
            have HC := Lib.hid (play_all HPX.out.gates HIX.out (by have := HLX.out; omega))
            have hbl := blk_lt HPX.out.kept.cell
            have hcw := blk_cells HOB.out
            go_wp2_with fail
            refine HC.out.mono ?_
            rintro en w5 ⟨v5, rfl, ho5, hb5⟩
            have hlt5 := ho5.lt
            obtain ⟨xa, xc, rfl, _, _, _⟩ := ho5.slice
            have HX5 := Lib.hid (fun k hk => (hlt5 k hk).1)
            have HP5 := Lib.hid (HPX.out.call hb5)
            have HO5 := Lib.hid ((hb5.block _ (blk_lt HOB.out)).trans HOB.out)
            have hfr := HPX.out.kept.fresh (x := .slice xa (R2).length xc) HX5.out
            have HKT := Lib.hid (ktrio_any HP5.out.kept (ho5.mono hbl) hfr.1 hfr.2.1 hfr.2.2.1 hfr.2.2.2 (by have := HLX.out; omega) (by have := HLX.out; omega) (Nat.le_trans hbl hb5.size))
            have HB5 := Lib.hid hb5
            clear ho5 hb5 hlt5 hfr HC hcw
            go_wp2_with fail
            refine HKT.out.mono ?_
            rintro en w6 ⟨rfl, hbu, s2, t2, x2, hk6, hf6⟩
            have HP6 := Lib.hid (HPX.out.keep HB5.out HX5.out hbu hk6 hf6)
            have HO6 := Lib.hid ((hf6.keep wo.heap.size (blk_lt HO5.out) HFO.out.1 HFO.out.2.1 HFO.out.2.2.1).trans HO5.out)
            have HXS : Hid (Sl tTrio w6 (fun _ => True) xa R2) := Lib.hid (by
              have hvl : vs.length = L.length := HPX.out.kept.lv.len
              exact (hk6.lv.own vs.length (.slice xa (R2).length xc) R2 (by simp) (by rw [hvl]; simp)).sl)
            clear hbu hk6 hf6 HKT HP5 HX5 HO5 HB5
            have hrl : (R2).length ≤ 9223372036854775807 := by have := HLX.out; omega
            go_wp2_with fail
            go_loopw [16] (fun v16 wr => ∃ k : Nat, k ≤ (R2).length ∧ v16 = .int .i64 k ∧ Below w6.heap.size w6 wr) (fun v16 _ => (R2).length - (Go.RowKit.intOf v16).toNat)
            case atStart => exact ⟨0, Nat.zero_le _, rfl, Below.refl _ _⟩
            case round =>
              obtain ⟨k, hk, rfl, hb⟩ := hrel
              rename World => wk
              have HBK := Lib.hid hb
              clear hb
              by_cases hlk : k < (R2).length
              · obtain ⟨ad2, rfl, _, hadl2, hd0, hd1, hd2, _⟩ := trio_at (Sl.keep (fun k hk _ => HBK.out.block k hk) HXS.out) k hlk
                obtain ⟨ad3, he3, _, hadl3, hf0, hf1, hf2, _⟩ := gate_at (Sl.keep (fun k hk _ => HBK.out.block k hk) HP6.out.ref) k hlk
                obtain ⟨⟨z1, z2, z3⟩, hz⟩ : ∃ z, (R2)[k] = z := ⟨_, rfl⟩
                rw [hz] at hd0 hd1 hd2 hf0 hf1 hf2
                simp only at hd0 hd1 hd2 hf0 hf1 hf2
                obtain ⟨rb, hrb⟩ : ∃ rb, ra2 = rb := ⟨_, rfl⟩
                rw [hrb] at he3 ⊢
                subst he3
                have heq := fun W => eq_tri z1 z2 z3 W
                clear hz hrb
                go_wp2_with fail
                go_quiet (fail)
                go_wp2_with fail
                go_roundw
                case rel => exact ⟨k + 1, by omega, by go_num, below_drewN HBK.out _⟩
                case measure => simp [Go.RowKit.intOf]; omega
              · have HP7 := Lib.hid (HP6.out.call HBK.out)
                have HO7 := Lib.hid ((HBK.out.block _ (blk_lt HO6.out)).trans HO6.out)
                have hcw := blk_cells HO7.out
                have hrl2 : (R2).length ≤ 100000 := by have := HLX.out; omega
                have HS1 : Hid (∀ W, Below wk.heap.size wk W → Calls Tryz.prog 10 #[.pointer (some ⟨g, 0, none⟩), .int .i64 entity, .int .i64 period] W fun en w' => en = .returned (.int .i64 (refSt R2 entity period)) ∧ Below W.heap.size W w') := Lib.hid (fun W hb => by have := state_any (HP7.out.gates.below hb) entity period HEN.out.1 HEN.out.2; rwa [HIX.out.state] at this)
                have HS2 : Hid (∀ W, Below wk.heap.size wk W → Calls Tryz.prog 10 #[.pointer (some ⟨g, 0, none⟩), .int .i64 oe, .int .i64 op] W fun en w' => en = .returned (.int .i64 (refSt R2 oe op)) ∧ Below W.heap.size W w') := Lib.hid (fun W hb => by have := state_any (HP7.out.gates.below hb) oe op HOI.out.1 HOI.out.2.1; rwa [HIX.out.state] at this)
                have HM1 : Hid (∀ W, Below wk.heap.size wk W → Calls Tryz.prog 12 #[.pointer (some ⟨g, 0, none⟩), .int .i64 entity, .int .i64 period] W fun en w' => en = .returned (.int .i64 (refMy R2 entity period)) ∧ Below W.heap.size W w') := Lib.hid (fun W hb => by have := gmay_any (HP7.out.gates.below hb) entity period HEN.out.1 HEN.out.2; rwa [HIX.out.may] at this)
                have HR1 : Hid (∀ W, Below wk.heap.size wk W → Calls Tryz.prog 11 #[.slice ra2 (R2).length rc2, .int .i64 entity, .int .i64 period] W fun en w' => en = .returned (.int .i64 (refSt R2 entity period)) ∧ Below W.heap.size W w') := Lib.hid (fun W hb => rState_any R2 ra2 rc2 W (Sl.keep (fun k hk _ => hb.block k hk) HP7.out.ref) hrl2 entity period)
                have HR2 : Hid (∀ W, Below wk.heap.size wk W → Calls Tryz.prog 11 #[.slice ra2 (R2).length rc2, .int .i64 oe, .int .i64 op] W fun en w' => en = .returned (.int .i64 (refSt R2 oe op)) ∧ Below W.heap.size W w') := Lib.hid (fun W hb => rState_any R2 ra2 rc2 W (Sl.keep (fun k hk _ => hb.block k hk) HP7.out.ref) hrl2 oe op)
                have HRM : Hid (∀ W, Below wk.heap.size wk W → Calls Tryz.prog 13 #[.slice ra2 (R2).length rc2, .int .i64 entity, .int .i64 period] W fun en w' => en = .returned (.int .i64 (refMy R2 entity period)) ∧ Below W.heap.size W w') := Lib.hid (fun W hb => rMay_any R2 ra2 rc2 W (Sl.keep (fun k hk _ => hb.block k hk) HP7.out.ref) hrl2 entity period)
                have HCE : Hid (∀ W, Below wk.heap.size wk W → (W.cell? ⟨wo.heap.size, 0, none⟩ = some (.int .i64 oe) ∧ W.cell? ⟨wo.heap.size, 1, none⟩ = some (.int .i64 op))) := Lib.hid (fun W hb => ⟨by rw [blk_cells (blk_below HO7.out hb)]; rfl, by rw [blk_cells (blk_below HO7.out hb)]; rfl⟩)
                have HBD : Hid (Below wk.heap.size wk wk.drew) := Lib.hid (Below.drew (Below.refl _ _))
                have HLN : Hid ((vs ++ [Value.slice xa (R2).length xc]).length = n + 1 ∧ (R2).length ≤ n + 1 ∧ (l2).length ≤ n + 1) := Lib.hid (by have := HLX.out; simp; omega)
                have HLM : Hid (∀ (i : Nat) (m : List Gt), (L ++ [R2])[i]? = some m → m.length ≤ 100000) := Lib.hid (fun i m hm => by
                  rw [List.getElem?_append] at hm
                  split at hm
                  · exact HLL.out i m hm
                  · rcases List.getElem?_eq_some_iff.1 hm with ⟨hi, rfl⟩
                    simp at hi
                    have h0 : i - L.length = 0 := by omega
                    simpa [h0] using hrl2)
                obtain ⟨q1, hq1⟩ : ∃ q, refSt R2 entity period = q := ⟨_, rfl⟩
                obtain ⟨q2, hq2⟩ : ∃ q, refSt R2 oe op = q := ⟨_, rfl⟩
                obtain ⟨q3, hq3⟩ : ∃ q, refMy R2 entity period = q := ⟨_, rfl⟩
                rw [hq1] at HS1 HR1
                rw [hq2] at HS2 HR2
                rw [hq3] at HM1 HRM
                clear hq1 hq2 hq3 hcw HXS HO6 HPX HOB
                go_wp2_with fail
                go_region_held3 (fun w' => w'.cell? ⟨wo.heap.size, 0, none⟩ = some (.int .i64 oe) ∧ w'.cell? ⟨wo.heap.size, 1, none⟩ = some (.int .i64 op)) (first | with_reducible exact HCE.out _ HX.out | with_reducible exact HCE.out _ HBD.out) (first | (go_at_call 10; with_reducible refine (HS1.out _ (by first | with_reducible exact HX.out | with_reducible exact HBD.out)).mono ?_; rintro en wx ⟨rfl, hb⟩; have HX : Hid (Below wk.heap.size wk wx) := Lib.hid (bel_then (by first | with_reducible exact HX.out | with_reducible exact HBD.out) hb); clear hb) | (go_at_call 10; with_reducible refine (HS2.out _ (by first | with_reducible exact HX.out | with_reducible exact HBD.out)).mono ?_; rintro en wx ⟨rfl, hb⟩; have HX : Hid (Below wk.heap.size wk wx) := Lib.hid (bel_then (by first | with_reducible exact HX.out | with_reducible exact HBD.out) hb); clear hb) | (go_at_call 11; with_reducible refine (HR1.out _ (by first | with_reducible exact HX.out | with_reducible exact HBD.out)).mono ?_; rintro en wx ⟨rfl, hb⟩; have HX : Hid (Below wk.heap.size wk wx) := Lib.hid (bel_then (by first | with_reducible exact HX.out | with_reducible exact HBD.out) hb); clear hb) | (go_at_call 11; with_reducible refine (HR2.out _ (by first | with_reducible exact HX.out | with_reducible exact HBD.out)).mono ?_; rintro en wx ⟨rfl, hb⟩; have HX : Hid (Below wk.heap.size wk wx) := Lib.hid (bel_then (by first | with_reducible exact HX.out | with_reducible exact HBD.out) hb); clear hb) | (go_at_call 12; with_reducible refine (HM1.out _ (by first | with_reducible exact HX.out | with_reducible exact HBD.out)).mono ?_; rintro en wx ⟨rfl, hb⟩; have HX : Hid (Below wk.heap.size wk wx) := Lib.hid (bel_then (by first | with_reducible exact HX.out | with_reducible exact HBD.out) hb); clear hb) | (go_at_call 13; with_reducible refine (HRM.out _ (by first | with_reducible exact HX.out | with_reducible exact HBD.out)).mono ?_; rintro en wx ⟨rfl, hb⟩; have HX : Hid (Below wk.heap.size wk wx) := Lib.hid (bel_then (by first | with_reducible exact HX.out | with_reducible exact HBD.out) hb); clear hb))
                all_goals
                  have HP8 := Lib.hid (HP7.out.call HX.out)
                  go_wp2_with fail
                  go_roundw
                  case rel => exact ⟨n + 1, g, r2, l2, s2, t2, _, _, _, ra2, rc2, R2, rfl, rfl, by go_num, by omega, HP8, HIX, HLN, HLM⟩
                  case measure => simp [Go.RowKit.intOf]; omega
          · have HP4 := Lib.hid (HP1.out.call HB4.out)
            have HST := Lib.hid (set_any HP4.out.gates oe op os HOI.out.1 HOI.out.2.1)
            obtain ⟨er, her⟩ : ∃ er, gSetE R (oe, op, os) = er := ⟨_, rfl⟩
            rw [her] at hz HER ⊢
            have HZ2 := Lib.hid hz
            clear hz her
            go_wp2_with fail
            refine HST.out.mono ?_
            rintro en w7 ⟨rfl, hbu, r2, hg7, hr7⟩
            rw [HER.out] at hg7 ⊢
            rw [if_neg HZ2.out] at hg7
            have HPX := Lib.hid (HP4.out.set hbu hg7 hr7)
            have HOB := Lib.hid ((hbu.block _ (blk_lt HO4.out) (fun hh => by
              rcases hh with hh | hh
              · exact absurd hh (by have := HP.out.gl; omega)
              · exact absurd hh (fun e => by have := HP.out.gl.2 _ e; omega))).trans HO4.out)
            have HIX := HI
            have HLX : Hid (vs.length = n ∧ R.length ≤ n + 1 ∧ l.length ≤ n + 1) := Lib.hid (by have := HL.out; omega)
            clear hbu hg7 hr7 HST HP4 HO4 HO1 HP1 HER hgl4 hco4 HZ2
            have HC := Lib.hid (play_all HPX.out.gates HIX.out (by have := HLX.out; omega))
            have hbl := blk_lt HPX.out.kept.cell
            have hcw := blk_cells HOB.out
            go_wp2_with fail
            refine HC.out.mono ?_
            rintro en w5 ⟨v5, rfl, ho5, hb5⟩
            have hlt5 := ho5.lt
            obtain ⟨xa, xc, rfl, _, _, _⟩ := ho5.slice
            have HX5 := Lib.hid (fun k hk => (hlt5 k hk).1)
            have HP5 := Lib.hid (HPX.out.call hb5)
            have HO5 := Lib.hid ((hb5.block _ (blk_lt HOB.out)).trans HOB.out)
            have hfr := HPX.out.kept.fresh (x := .slice xa (R).length xc) HX5.out
            have HKT := Lib.hid (ktrio_any HP5.out.kept (ho5.mono hbl) hfr.1 hfr.2.1 hfr.2.2.1 hfr.2.2.2 (by have := HLX.out; omega) (by have := HLX.out; omega) (Nat.le_trans hbl hb5.size))
            have HB5 := Lib.hid hb5
            clear ho5 hb5 hlt5 hfr HC hcw
            go_wp2_with fail
            refine HKT.out.mono ?_
            rintro en w6 ⟨rfl, hbu, s2, t2, x2, hk6, hf6⟩
            have HP6 := Lib.hid (HPX.out.keep HB5.out HX5.out hbu hk6 hf6)
            have HO6 := Lib.hid ((hf6.keep wo.heap.size (blk_lt HO5.out) HFO.out.1 HFO.out.2.1 HFO.out.2.2.1).trans HO5.out)
            have HXS : Hid (Sl tTrio w6 (fun _ => True) xa R) := Lib.hid (by
              have hvl : vs.length = L.length := HPX.out.kept.lv.len
              exact (hk6.lv.own vs.length (.slice xa (R).length xc) R (by simp) (by rw [hvl]; simp)).sl)
            clear hbu hk6 hf6 HKT HP5 HX5 HO5 HB5
            have hrl : (R).length ≤ 9223372036854775807 := by have := HLX.out; omega
            go_wp2_with fail
            go_loopw [16] (fun v16 wr => ∃ k : Nat, k ≤ (R).length ∧ v16 = .int .i64 k ∧ Below w6.heap.size w6 wr) (fun v16 _ => (R).length - (Go.RowKit.intOf v16).toNat)
            case atStart => exact ⟨0, Nat.zero_le _, rfl, Below.refl _ _⟩
            case round =>
              obtain ⟨k, hk, rfl, hb⟩ := hrel
              rename World => wk
              have HBK := Lib.hid hb
              clear hb
              by_cases hlk : k < (R).length
              · obtain ⟨ad2, rfl, _, hadl2, hd0, hd1, hd2, _⟩ := trio_at (Sl.keep (fun k hk _ => HBK.out.block k hk) HXS.out) k hlk
                obtain ⟨ad3, he3, _, hadl3, hf0, hf1, hf2, _⟩ := gate_at (Sl.keep (fun k hk _ => HBK.out.block k hk) HP6.out.ref) k hlk
                obtain ⟨⟨z1, z2, z3⟩, hz⟩ : ∃ z, (R)[k] = z := ⟨_, rfl⟩
                rw [hz] at hd0 hd1 hd2 hf0 hf1 hf2
                simp only at hd0 hd1 hd2 hf0 hf1 hf2
                obtain ⟨rb, hrb⟩ : ∃ rb, ra = rb := ⟨_, rfl⟩
                rw [hrb] at he3 ⊢
                subst he3
                have heq := fun W => eq_tri z1 z2 z3 W
                clear hz hrb
                go_wp2_with fail
                go_quiet (fail)
                go_wp2_with fail
                go_roundw
                case rel => exact ⟨k + 1, by omega, by go_num, below_drewN HBK.out _⟩
                case measure => simp [Go.RowKit.intOf]; omega
              · have HP7 := Lib.hid (HP6.out.call HBK.out)
                have HO7 := Lib.hid ((HBK.out.block _ (blk_lt HO6.out)).trans HO6.out)
                have hcw := blk_cells HO7.out
                have hrl2 : (R).length ≤ 100000 := by have := HLX.out; omega
                have HS1 : Hid (∀ W, Below wk.heap.size wk W → Calls Tryz.prog 10 #[.pointer (some ⟨g, 0, none⟩), .int .i64 entity, .int .i64 period] W fun en w' => en = .returned (.int .i64 (refSt R entity period)) ∧ Below W.heap.size W w') := Lib.hid (fun W hb => by have := state_any (HP7.out.gates.below hb) entity period HEN.out.1 HEN.out.2; rwa [HIX.out.state] at this)
                have HS2 : Hid (∀ W, Below wk.heap.size wk W → Calls Tryz.prog 10 #[.pointer (some ⟨g, 0, none⟩), .int .i64 oe, .int .i64 op] W fun en w' => en = .returned (.int .i64 (refSt R oe op)) ∧ Below W.heap.size W w') := Lib.hid (fun W hb => by have := state_any (HP7.out.gates.below hb) oe op HOI.out.1 HOI.out.2.1; rwa [HIX.out.state] at this)
                have HM1 : Hid (∀ W, Below wk.heap.size wk W → Calls Tryz.prog 12 #[.pointer (some ⟨g, 0, none⟩), .int .i64 entity, .int .i64 period] W fun en w' => en = .returned (.int .i64 (refMy R entity period)) ∧ Below W.heap.size W w') := Lib.hid (fun W hb => by have := gmay_any (HP7.out.gates.below hb) entity period HEN.out.1 HEN.out.2; rwa [HIX.out.may] at this)
                have HR1 : Hid (∀ W, Below wk.heap.size wk W → Calls Tryz.prog 11 #[.slice ra (R).length rc, .int .i64 entity, .int .i64 period] W fun en w' => en = .returned (.int .i64 (refSt R entity period)) ∧ Below W.heap.size W w') := Lib.hid (fun W hb => rState_any R ra rc W (Sl.keep (fun k hk _ => hb.block k hk) HP7.out.ref) hrl2 entity period)
                have HR2 : Hid (∀ W, Below wk.heap.size wk W → Calls Tryz.prog 11 #[.slice ra (R).length rc, .int .i64 oe, .int .i64 op] W fun en w' => en = .returned (.int .i64 (refSt R oe op)) ∧ Below W.heap.size W w') := Lib.hid (fun W hb => rState_any R ra rc W (Sl.keep (fun k hk _ => hb.block k hk) HP7.out.ref) hrl2 oe op)
                have HRM : Hid (∀ W, Below wk.heap.size wk W → Calls Tryz.prog 13 #[.slice ra (R).length rc, .int .i64 entity, .int .i64 period] W fun en w' => en = .returned (.int .i64 (refMy R entity period)) ∧ Below W.heap.size W w') := Lib.hid (fun W hb => rMay_any R ra rc W (Sl.keep (fun k hk _ => hb.block k hk) HP7.out.ref) hrl2 entity period)
                have HCE : Hid (∀ W, Below wk.heap.size wk W → (W.cell? ⟨wo.heap.size, 0, none⟩ = some (.int .i64 oe) ∧ W.cell? ⟨wo.heap.size, 1, none⟩ = some (.int .i64 op))) := Lib.hid (fun W hb => ⟨by rw [blk_cells (blk_below HO7.out hb)]; rfl, by rw [blk_cells (blk_below HO7.out hb)]; rfl⟩)
                have HBD : Hid (Below wk.heap.size wk wk.drew) := Lib.hid (Below.drew (Below.refl _ _))
                have HLN : Hid ((vs ++ [Value.slice xa (R).length xc]).length = n + 1 ∧ (R).length ≤ n + 1 ∧ (l).length ≤ n + 1) := Lib.hid (by have := HLX.out; simp; omega)
                have HLM : Hid (∀ (i : Nat) (m : List Gt), (L ++ [R])[i]? = some m → m.length ≤ 100000) := Lib.hid (fun i m hm => by
                  rw [List.getElem?_append] at hm
                  split at hm
                  · exact HLL.out i m hm
                  · rcases List.getElem?_eq_some_iff.1 hm with ⟨hi, rfl⟩
                    simp at hi
                    have h0 : i - L.length = 0 := by omega
                    simpa [h0] using hrl2)
                obtain ⟨q1, hq1⟩ : ∃ q, refSt R entity period = q := ⟨_, rfl⟩
                obtain ⟨q2, hq2⟩ : ∃ q, refSt R oe op = q := ⟨_, rfl⟩
                obtain ⟨q3, hq3⟩ : ∃ q, refMy R entity period = q := ⟨_, rfl⟩
                rw [hq1] at HS1 HR1
                rw [hq2] at HS2 HR2
                rw [hq3] at HM1 HRM
                clear hq1 hq2 hq3 hcw HXS HO6 HPX HOB
                go_wp2_with fail
                go_region_held3 (fun w' => w'.cell? ⟨wo.heap.size, 0, none⟩ = some (.int .i64 oe) ∧ w'.cell? ⟨wo.heap.size, 1, none⟩ = some (.int .i64 op)) (first | with_reducible exact HCE.out _ HX.out | with_reducible exact HCE.out _ HBD.out) (first | (go_at_call 10; with_reducible refine (HS1.out _ (by first | with_reducible exact HX.out | with_reducible exact HBD.out)).mono ?_; rintro en wx ⟨rfl, hb⟩; have HX : Hid (Below wk.heap.size wk wx) := Lib.hid (bel_then (by first | with_reducible exact HX.out | with_reducible exact HBD.out) hb); clear hb) | (go_at_call 10; with_reducible refine (HS2.out _ (by first | with_reducible exact HX.out | with_reducible exact HBD.out)).mono ?_; rintro en wx ⟨rfl, hb⟩; have HX : Hid (Below wk.heap.size wk wx) := Lib.hid (bel_then (by first | with_reducible exact HX.out | with_reducible exact HBD.out) hb); clear hb) | (go_at_call 11; with_reducible refine (HR1.out _ (by first | with_reducible exact HX.out | with_reducible exact HBD.out)).mono ?_; rintro en wx ⟨rfl, hb⟩; have HX : Hid (Below wk.heap.size wk wx) := Lib.hid (bel_then (by first | with_reducible exact HX.out | with_reducible exact HBD.out) hb); clear hb) | (go_at_call 11; with_reducible refine (HR2.out _ (by first | with_reducible exact HX.out | with_reducible exact HBD.out)).mono ?_; rintro en wx ⟨rfl, hb⟩; have HX : Hid (Below wk.heap.size wk wx) := Lib.hid (bel_then (by first | with_reducible exact HX.out | with_reducible exact HBD.out) hb); clear hb) | (go_at_call 12; with_reducible refine (HM1.out _ (by first | with_reducible exact HX.out | with_reducible exact HBD.out)).mono ?_; rintro en wx ⟨rfl, hb⟩; have HX : Hid (Below wk.heap.size wk wx) := Lib.hid (bel_then (by first | with_reducible exact HX.out | with_reducible exact HBD.out) hb); clear hb) | (go_at_call 13; with_reducible refine (HRM.out _ (by first | with_reducible exact HX.out | with_reducible exact HBD.out)).mono ?_; rintro en wx ⟨rfl, hb⟩; have HX : Hid (Below wk.heap.size wk wx) := Lib.hid (bel_then (by first | with_reducible exact HX.out | with_reducible exact HBD.out) hb); clear hb))
                all_goals
                  have HP8 := Lib.hid (HP7.out.call HX.out)
                  go_wp2_with fail
                  go_roundw
                  case rel => exact ⟨n + 1, g, r2, l, s2, t2, _, _, _, ra, rc, R, rfl, rfl, by go_num, by omega, HP8, HIX, HLN, HLM⟩
                  case measure => simp [Go.RowKit.intOf]; omega
        · skip
          have HO1 := Lib.hid (blk_new wo (.cells #[.int .i64 oe, .int .i64 op, .int .i64 os, .bool true] 43))
          have HP1 := Lib.hid (HP.out.call ((Below.refl wo.heap.size wo).alloc (Nat.le_refl _) (.cells #[.int .i64 oe, .int .i64 op, .int .i64 os, .bool true] 43)))
          have hco := blk_cells HO1.out
          have HC := Lib.hid (copyG_any HP1.out.gates)
          clear hgl
          go_wp2_with fail
          refine HC.out.mono ?_
          rintro en w4 ⟨g4, r4, rfl, hg4, hge4, hre4, hb⟩
          have HJ := Lib.hid (JunkS.start HP1.out hb hg4 hge4 hre4)
          have HO4 := Lib.hid (blk_below HO1.out hb)
          clear hb hg4 hge4 hre4 HC hco hc0 hc1 hc2 hc3 hadl
          have HST := Lib.hid (set_any HJ.out.old 2 7 1 (by decide) (by decide))
          go_wp2_with fail
          refine HST.out.mono ?_
          rintro en w5 ⟨rfl, hbu, r5, hg5, hr5⟩
          generalize (if setE l 2 7 1 = 0 then setL l 2 7 1 else l) = l5 at hg5
          generalize setE l 2 7 1 = e5
          have HJ5 := Lib.hid (HJ.out.set hbu hg5 hr5)
          have HO5 := Lib.hid ((hbu.block _ (blk_lt HO4.out) (fun hh => by
              rcases hh with hh | hh
              · exact absurd hh (by have := HP.out.gl; omega)
              · exact absurd hh (fun e => by have := HP.out.gl.2 _ e; omega))).trans HO4.out)
          have HR5 : Hid (r5 ≠ some wo.heap.size) := Lib.hid (fun e => by
            rcases hr5 with h | ⟨m, h, hm⟩
            · rw [h] at e; have := HP.out.gl.2 _ e; omega
            · rw [h] at e; injection e with e; have := blk_lt HO4.out; omega)
          have hco5 := blk_cells HO5.out
          have HST5 := Lib.hid (set_any HJ5.out.old oe op os HOI.out.1 HOI.out.2.1)
          clear hbu hg5 hr5 HST HJ HO4
          go_wp2_with fail
          refine HST5.out.mono ?_
          rintro en w7 ⟨rfl, hbu, r7, hg7, hr7⟩
          generalize (if setE l5 oe op os = 0 then setL l5 oe op os else l5) = l7 at hg7
          generalize setE l5 oe op os = e7
          have HPX := Lib.hid (HJ5.out.set hbu hg7 hr7).play
          have HOB := Lib.hid ((hbu.block _ (blk_lt HO5.out) (fun hh => by
              rcases hh with hh | hh
              · exact absurd hh (by have := HP.out.gl; omega)
              · exact HR5.out hh)).trans HO5.out)
          have HIX := HI
          have HLX : Hid (vs.length = n ∧ R.length ≤ n + 1 ∧ l.length ≤ n + 1) := Lib.hid (by have := HL.out; omega)
          clear hbu hg7 hr7 HST5 HO1 HP1 HJ5 HO5 HR5 hco5
          have HC := Lib.hid (play_all HPX.out.gates HIX.out (by have := HLX.out; omega))
          have hbl := blk_lt HPX.out.kept.cell
          have hcw := blk_cells HOB.out
          go_wp2_with fail
          refine HC.out.mono ?_
          rintro en w5 ⟨v5, rfl, ho5, hb5⟩
          have hlt5 := ho5.lt
          obtain ⟨xa, xc, rfl, _, _, _⟩ := ho5.slice
          have HX5 := Lib.hid (fun k hk => (hlt5 k hk).1)
          have HP5 := Lib.hid (HPX.out.call hb5)
          have HO5 := Lib.hid ((hb5.block _ (blk_lt HOB.out)).trans HOB.out)
          have hfr := HPX.out.kept.fresh (x := .slice xa (R).length xc) HX5.out
          have HKT := Lib.hid (ktrio_any HP5.out.kept (ho5.mono hbl) hfr.1 hfr.2.1 hfr.2.2.1 hfr.2.2.2 (by have := HLX.out; omega) (by have := HLX.out; omega) (Nat.le_trans hbl hb5.size))
          have HB5 := Lib.hid hb5
          clear ho5 hb5 hlt5 hfr HC hcw
          go_wp2_with fail
          refine HKT.out.mono ?_
          rintro en w6 ⟨rfl, hbu, s2, t2, x2, hk6, hf6⟩
          have HP6 := Lib.hid (HPX.out.keep HB5.out HX5.out hbu hk6 hf6)
          have HO6 := Lib.hid ((hf6.keep wo.heap.size (blk_lt HO5.out) HFO.out.1 HFO.out.2.1 HFO.out.2.2.1).trans HO5.out)
          have HXS : Hid (Sl tTrio w6 (fun _ => True) xa R) := Lib.hid (by
            have hvl : vs.length = L.length := HPX.out.kept.lv.len
            exact (hk6.lv.own vs.length (.slice xa (R).length xc) R (by simp) (by rw [hvl]; simp)).sl)
          clear hbu hk6 hf6 HKT HP5 HX5 HO5 HB5
          have hrl : (R).length ≤ 9223372036854775807 := by have := HLX.out; omega
          go_wp2_with fail
          go_loopw [16] (fun v16 wr => ∃ k : Nat, k ≤ (R).length ∧ v16 = .int .i64 k ∧ Below w6.heap.size w6 wr) (fun v16 _ => (R).length - (Go.RowKit.intOf v16).toNat)
          case atStart => exact ⟨0, Nat.zero_le _, rfl, Below.refl _ _⟩
          case round =>
            obtain ⟨k, hk, rfl, hb⟩ := hrel
            rename World => wk
            have HBK := Lib.hid hb
            clear hb
            by_cases hlk : k < (R).length
            · obtain ⟨ad2, rfl, _, hadl2, hd0, hd1, hd2, _⟩ := trio_at (Sl.keep (fun k hk _ => HBK.out.block k hk) HXS.out) k hlk
              obtain ⟨ad3, he3, _, hadl3, hf0, hf1, hf2, _⟩ := gate_at (Sl.keep (fun k hk _ => HBK.out.block k hk) HP6.out.ref) k hlk
              obtain ⟨⟨z1, z2, z3⟩, hz⟩ : ∃ z, (R)[k] = z := ⟨_, rfl⟩
              rw [hz] at hd0 hd1 hd2 hf0 hf1 hf2
              simp only at hd0 hd1 hd2 hf0 hf1 hf2
              obtain ⟨rb, hrb⟩ : ∃ rb, ra = rb := ⟨_, rfl⟩
              rw [hrb] at he3 ⊢
              subst he3
              have heq := fun W => eq_tri z1 z2 z3 W
              clear hz hrb
              go_wp2_with fail
              go_quiet (fail)
              go_wp2_with fail
              go_roundw
              case rel => exact ⟨k + 1, by omega, by go_num, below_drewN HBK.out _⟩
              case measure => simp [Go.RowKit.intOf]; omega
            · have HP7 := Lib.hid (HP6.out.call HBK.out)
              have HO7 := Lib.hid ((HBK.out.block _ (blk_lt HO6.out)).trans HO6.out)
              have hcw := blk_cells HO7.out
              have hrl2 : (R).length ≤ 100000 := by have := HLX.out; omega
              have HS1 : Hid (∀ W, Below wk.heap.size wk W → Calls Tryz.prog 10 #[.pointer (some ⟨g4, 0, none⟩), .int .i64 entity, .int .i64 period] W fun en w' => en = .returned (.int .i64 (refSt R entity period)) ∧ Below W.heap.size W w') := Lib.hid (fun W hb => by have := state_any (HP7.out.gates.below hb) entity period HEN.out.1 HEN.out.2; rwa [HIX.out.state] at this)
              have HS2 : Hid (∀ W, Below wk.heap.size wk W → Calls Tryz.prog 10 #[.pointer (some ⟨g4, 0, none⟩), .int .i64 oe, .int .i64 op] W fun en w' => en = .returned (.int .i64 (refSt R oe op)) ∧ Below W.heap.size W w') := Lib.hid (fun W hb => by have := state_any (HP7.out.gates.below hb) oe op HOI.out.1 HOI.out.2.1; rwa [HIX.out.state] at this)
              have HM1 : Hid (∀ W, Below wk.heap.size wk W → Calls Tryz.prog 12 #[.pointer (some ⟨g4, 0, none⟩), .int .i64 entity, .int .i64 period] W fun en w' => en = .returned (.int .i64 (refMy R entity period)) ∧ Below W.heap.size W w') := Lib.hid (fun W hb => by have := gmay_any (HP7.out.gates.below hb) entity period HEN.out.1 HEN.out.2; rwa [HIX.out.may] at this)
              have HR1 : Hid (∀ W, Below wk.heap.size wk W → Calls Tryz.prog 11 #[.slice ra (R).length rc, .int .i64 entity, .int .i64 period] W fun en w' => en = .returned (.int .i64 (refSt R entity period)) ∧ Below W.heap.size W w') := Lib.hid (fun W hb => rState_any R ra rc W (Sl.keep (fun k hk _ => hb.block k hk) HP7.out.ref) hrl2 entity period)
              have HR2 : Hid (∀ W, Below wk.heap.size wk W → Calls Tryz.prog 11 #[.slice ra (R).length rc, .int .i64 oe, .int .i64 op] W fun en w' => en = .returned (.int .i64 (refSt R oe op)) ∧ Below W.heap.size W w') := Lib.hid (fun W hb => rState_any R ra rc W (Sl.keep (fun k hk _ => hb.block k hk) HP7.out.ref) hrl2 oe op)
              have HRM : Hid (∀ W, Below wk.heap.size wk W → Calls Tryz.prog 13 #[.slice ra (R).length rc, .int .i64 entity, .int .i64 period] W fun en w' => en = .returned (.int .i64 (refMy R entity period)) ∧ Below W.heap.size W w') := Lib.hid (fun W hb => rMay_any R ra rc W (Sl.keep (fun k hk _ => hb.block k hk) HP7.out.ref) hrl2 entity period)
              have HCE : Hid (∀ W, Below wk.heap.size wk W → (W.cell? ⟨wo.heap.size, 0, none⟩ = some (.int .i64 oe) ∧ W.cell? ⟨wo.heap.size, 1, none⟩ = some (.int .i64 op))) := Lib.hid (fun W hb => ⟨by rw [blk_cells (blk_below HO7.out hb)]; rfl, by rw [blk_cells (blk_below HO7.out hb)]; rfl⟩)
              have HBD : Hid (Below wk.heap.size wk wk.drew) := Lib.hid (Below.drew (Below.refl _ _))
              have HLN : Hid ((vs ++ [Value.slice xa (R).length xc]).length = n + 1 ∧ (R).length ≤ n + 1 ∧ (l).length ≤ n + 1) := Lib.hid (by have := HLX.out; simp; omega)
              have HLM : Hid (∀ (i : Nat) (m : List Gt), (L ++ [R])[i]? = some m → m.length ≤ 100000) := Lib.hid (fun i m hm => by
                rw [List.getElem?_append] at hm
                split at hm
                · exact HLL.out i m hm
                · rcases List.getElem?_eq_some_iff.1 hm with ⟨hi, rfl⟩
                  simp at hi
                  have h0 : i - L.length = 0 := by omega
                  simpa [h0] using hrl2)
              obtain ⟨q1, hq1⟩ : ∃ q, refSt R entity period = q := ⟨_, rfl⟩
              obtain ⟨q2, hq2⟩ : ∃ q, refSt R oe op = q := ⟨_, rfl⟩
              obtain ⟨q3, hq3⟩ : ∃ q, refMy R entity period = q := ⟨_, rfl⟩
              rw [hq1] at HS1 HR1
              rw [hq2] at HS2 HR2
              rw [hq3] at HM1 HRM
              clear hq1 hq2 hq3 hcw HXS HO6 HPX HOB
              go_wp2_with fail
              go_region_held3 (fun w' => w'.cell? ⟨wo.heap.size, 0, none⟩ = some (.int .i64 oe) ∧ w'.cell? ⟨wo.heap.size, 1, none⟩ = some (.int .i64 op)) (first | with_reducible exact HCE.out _ HX.out | with_reducible exact HCE.out _ HBD.out) (first | (go_at_call 10; with_reducible refine (HS1.out _ (by first | with_reducible exact HX.out | with_reducible exact HBD.out)).mono ?_; rintro en wx ⟨rfl, hb⟩; have HX : Hid (Below wk.heap.size wk wx) := Lib.hid (bel_then (by first | with_reducible exact HX.out | with_reducible exact HBD.out) hb); clear hb) | (go_at_call 10; with_reducible refine (HS2.out _ (by first | with_reducible exact HX.out | with_reducible exact HBD.out)).mono ?_; rintro en wx ⟨rfl, hb⟩; have HX : Hid (Below wk.heap.size wk wx) := Lib.hid (bel_then (by first | with_reducible exact HX.out | with_reducible exact HBD.out) hb); clear hb) | (go_at_call 11; with_reducible refine (HR1.out _ (by first | with_reducible exact HX.out | with_reducible exact HBD.out)).mono ?_; rintro en wx ⟨rfl, hb⟩; have HX : Hid (Below wk.heap.size wk wx) := Lib.hid (bel_then (by first | with_reducible exact HX.out | with_reducible exact HBD.out) hb); clear hb) | (go_at_call 11; with_reducible refine (HR2.out _ (by first | with_reducible exact HX.out | with_reducible exact HBD.out)).mono ?_; rintro en wx ⟨rfl, hb⟩; have HX : Hid (Below wk.heap.size wk wx) := Lib.hid (bel_then (by first | with_reducible exact HX.out | with_reducible exact HBD.out) hb); clear hb) | (go_at_call 12; with_reducible refine (HM1.out _ (by first | with_reducible exact HX.out | with_reducible exact HBD.out)).mono ?_; rintro en wx ⟨rfl, hb⟩; have HX : Hid (Below wk.heap.size wk wx) := Lib.hid (bel_then (by first | with_reducible exact HX.out | with_reducible exact HBD.out) hb); clear hb) | (go_at_call 13; with_reducible refine (HRM.out _ (by first | with_reducible exact HX.out | with_reducible exact HBD.out)).mono ?_; rintro en wx ⟨rfl, hb⟩; have HX : Hid (Below wk.heap.size wk wx) := Lib.hid (bel_then (by first | with_reducible exact HX.out | with_reducible exact HBD.out) hb); clear hb))
              all_goals
                have HP8 := Lib.hid (HP7.out.call HX.out)
                go_wp2_with fail
                go_roundw
                case rel => exact ⟨n + 1, g4, r4, l, s2, t2, _, _, _, ra, rc, R, rfl, rfl, by go_num, by omega, HP8, HIX, HLN, HLM⟩
                case measure => simp [Go.RowKit.intOf]; omega
      · go_wp2_with fail
        refine (gSet_nil 1 1 1 wo).mono ?_
        rintro en wa ⟨rfl, hb⟩
        have HPa := Lib.hid (HP.out.call hb)
        clear hb
        go_wp2_with fail
        refine (gState_nil 1 1 wa).mono ?_
        rintro en wb ⟨rfl, hb⟩
        have HPb := Lib.hid (HPa.out.call hb)
        clear hb
        go_wp2_with fail
        refine (gMay_nil 1 1 wb).mono ?_
        rintro en wc1 ⟨rfl, hb⟩
        have HPc := Lib.hid (HPb.out.call hb)
        clear hb
        go_wp2_with fail
        refine (gAll_nil wc1).mono ?_
        rintro en wd1 ⟨rfl, hb⟩
        have HPd := Lib.hid (HPc.out.call hb)
        clear hb
        go_wp2_with fail
        refine (gCopy_nil wd1).mono ?_
        rintro en we1 ⟨rfl, hb⟩
        have HPe := Lib.hid (HPd.out.call hb)
        clear hb
        have hbl := blk_lt HPe.out.kept.cell
        go_wp2_with fail
        refine (kapartT_any HPe.out.kept (by have := HL.out; omega) HLL.out hbl).mono ?_
        rintro en wf1 ⟨rfl, hbu⟩
        have HBF := Lib.hid (bel_then HB1.out (But.toBelow HPe.out.below hbu (fun k hk => by have := HBQ.out; omega) HPe.out.below.size))
        clear hbu
        go_wp2_with fail
        go_ret
        exact ⟨rfl, HBF.out⟩
theorem gatesPlay_row (a0 : Option Addr) (len0 cap0 : Nat) (x0 : List Gop) (a1 a2 : Int) (w : World) (y0 : tGops.R w (fun _ => True) [.slice a0 len0 cap0] x0) (w1 : I64 a1) (w2 : I64 a2) :
    Calls Tryz.prog 3 #[.slice a0 len0 cap0, .int .i64 a1, .int .i64 a2] w fun en w' => en = .returned (.bool true) ∧ Below w.heap.size w w' := by
  obtain ⟨a, cap, he, hs, hle, hcm, _⟩ := y0
  simp only [List.cons.injEq, Value.slice.injEq, and_true] at he
  obtain ⟨rfl, rfl, rfl⟩ := he
  exact gatesPlay_any x0 _ _ a1 a2 w1 w2 w hs (Nat.le_trans hle hcm)
end Go.Proofs.YtacemlbfifhllaaGreat
