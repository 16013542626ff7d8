/- The document's sheet. -/
import Derived.Test.YtfnmlpnncjhnmaaGreatX31SheetMoves
import Derived.Test.YtfnmlpnncjhnmaaGreatX34SheetMoves
import Derived.Test.YtfnmlpnncjhnmaaGreatX37SheetMoves
set_option linter.unusedVariables false
set_option linter.unusedSimpArgs false
namespace Go.Proofs.YtfnmlpnncjhnmaaGreat
open Go.RowKit Go.Maps Go.Deep

def retD (r : List Ac) (J : List Jn) (e p : Int) : Int × Int := if janOf p - 1 < 0 then (0, 0) else refN r J e 0 (janOf p - 1)
theorem shD_0 {r : List Ac} {J : List Jn} {e p : Int} (h : (balT J e 0 p).2 ≠ 0) : shD r J e p = ([], (balT J e 0 p).2) := by
  have : ((balT J e 0 p).2 != 0) = true := by simpa using h
  unfold shD
  rw [this]
  rfl
theorem shD_1 {r : List Ac} {J : List Jn} {e p : Int} (h0 : (balT J e 0 p).2 = 0) (h : (retD r J e p).2 ≠ 0) : shD r J e p = ([], (retD r J e p).2) := by
  have h1 : ((retD r J e p).2 != 0) = true := by simpa using h
  unfold shD
  change (if (balT J e 0 p).2 != 0 then _ else if (retD r J e p).2 != 0 then ([], (retD r J e p).2) else _) = _
  rw [h0, h1]
  rfl
theorem shD_2 {r : List Ac} {J : List Jn} {e p : Int} (h0 : (balT J e 0 p).2 = 0) (h1 : (retD r J e p).2 = 0) (h : (refN r J e (janOf p) p).2 ≠ 0) : shD r J e p = ([], (refN r J e (janOf p) p).2) := by
  have h2 : ((refN r J e (janOf p) p).2 != 0) = true := by simpa using h
  unfold shD
  change (if (balT J e 0 p).2 != 0 then _ else if (retD r J e p).2 != 0 then ([], (retD r J e p).2) else _) = _
  rw [h0, h1, h2]
  rfl
theorem shD_3 {r : List Ac} {J : List Jn} {e p : Int} (h0 : (balT J e 0 p).2 = 0) (h1 : (retD r J e p).2 = 0) (h2 : (refN r J e (janOf p) p).2 = 0) : shD r J e p = if (sixD r J e p).all fitsB then (sixD r J e p, 0) else ([], 2) := by
  unfold shD
  change (if (balT J e 0 p).2 != 0 then _ else if (retD r J e p).2 != 0 then ([], (retD r J e p).2) else _) = _
  rw [h0, h1, h2]
  rfl
theorem refN_1 {r : List Ac} {J : List Jn} {e f t : Int} {l : List (Int × Int)} {er : Int} (h : balT J e f t = (l, er)) (h0 : er ≠ 0) : refN r J e f t = (0, er) := by
  have h1 : (er != 0) = true := by simpa using h0
  unfold refN
  rw [h]
  simp only [h1, if_true]
theorem refN_2 {r : List Ac} {J : List Jn} {e f t : Int} {l : List (Int × Int)} (h : balT J e f t = (l, 0)) : refN r J e f t = if netF r l then (netA r l - netB r l, 0) else (0, 2) := by
  unfold refN
  rw [h]
  rfl
theorem jan_is {p : Int} (h0 : 0 ≤ p) (h1 : p ≤ 1199) : wrap64 (wrap64 (p.tdiv 12) * 12) = janOf p ∧ 0 ≤ janOf p ∧ janOf p ≤ p := by
  have : p.tdiv 12 = p / 12 := Int.tdiv_eq_ediv_of_nonneg h0
  rw [this]
  unfold wrap64 janOf
  omega
/-- the nets after some rounds -/
structure NetK (r : List Ac) (J : List Jn) (e p : Int) (k : Nat) (n0 n1 : Int) : Prop where
  a : 0 < k → n0 = (retD r J e p).1 ∧ (retD r J e p).2 = 0
  b : k = 0 → n0 = 0
  c : 1 < k → n1 = (refN r J e (janOf p) p).1 ∧ (refN r J e (janOf p) p).2 = 0
  d : k ≤ 1 → n1 = 0

set_option maxHeartbeats 16000000 in
set_option maxRecDepth 100000 in
theorem r25Sheet_any (r : List Ac) (xa : Option Addr) (xc : Nat) (J : List Jn) (fa : Option Addr) (fc : Nat) (e p : Int) (w : World) {F G : Nat → Prop} (hs : Sl tAc w G xa r) (hrl : r.length ≤ 1000) (ht : Sl tJn w F fa J) (hV : ValJ J) (hJl : J.length ≤ 100) {t : List Int × Int} (hT : shD r J e p = t) :
    Calls Tryz.prog 26 #[.slice xa r.length xc, .slice fa J.length fc, .int .i64 e, .int .i64 p] w fun en w' => ∃ a c, en = .returned (.tuple #[.slice a t.1.length c, .int .i64 t.2]) ∧ Sl tInt w' (fun _ => True) a t.1 ∧ Below w.heap.size w w' := by
  have HS := Lib.hid hs
  have HT := Lib.hid ht
  have HV := Lib.hid hV
  have HD := Lib.hid hT
  have HRB := Lib.hid (r10Balances_all J fa fc e 0 p w ht hV)
  have hll : (balT J e 0 p).1.length ≤ 800 := balT_len hV.good hJl e 0 p
  have HFT : Hid (∀ x ∈ (balT J e 0 p).1, fitsB x.2 = true) := Lib.hid balT_fit
  obtain ⟨lst, ber, hbt⟩ : ∃ lst ber, balT J e 0 p = (lst, ber) := ⟨_, _, rfl⟩
  have HBT := Lib.hid hbt
  rw [hbt] at hll HFT HRB
  simp only at hll HFT
  clear hs ht hV hT hbt
  go_enter Tryz.func26, Tryz.ntmps26
  go_wp2_with fail
  refine HRB.out.mono ?_
  rintro en w1 ⟨v, rfl, ho, hb⟩
  obtain ⟨ba, bc, rfl⟩ := ho.isSl
  have HL1 : Hid (Sl tBal w1 (fun _ => True) ba lst) := Lib.hid ho.slice'
  have HB1 := Lib.hid hb
  clear ho hb HRB
  simp only
  by_cases h0 : ber = 0
  · subst h0
    go_wp2_with fail
    refine (r10Pick_any r xa xc lst ba bc 1 false w1 (Sl.keep (fun k hk _ => HB1.out.block k hk) HS.out) (by unfold maxLen; omega) HL1.out (by omega) HFT.out).mono ?_
    rintro en w2 ⟨v2, rfl, _, hb⟩
    have HB2 := Lib.hid (belows_then HB1.out HB1.out.size hb)
    have HL2 : Hid (Sl tBal w2 (fun _ => True) ba lst) := Lib.hid (Sl.keep (fun k hk _ => hb.block k hk) HL1.out)
    clear hb
    go_wp2_with fail
    refine (r10Pick_any r xa xc lst ba bc 2 true w2 (Sl.keep (fun k hk _ => HB2.out.block k hk) HS.out) (by unfold maxLen; omega) HL2.out (by omega) HFT.out).mono ?_
    rintro en w3 ⟨v3, rfl, _, hb⟩
    have HB3 := Lib.hid (belows_then HB2.out HB2.out.size hb)
    have HL3 : Hid (Sl tBal w3 (fun _ => True) ba lst) := Lib.hid (Sl.keep (fun k hk _ => hb.block k hk) HL2.out)
    clear hb
    go_wp2_with fail
    refine (r10Pick_any r xa xc lst ba bc 3 true w3 (Sl.keep (fun k hk _ => HB3.out.block k hk) HS.out) (by unfold maxLen; omega) HL3.out (by omega) HFT.out).mono ?_
    rintro en w4 ⟨v4, rfl, _, hb⟩
    have HB4 := Lib.hid (belows_then HB3.out HB3.out.size hb)
    have HL4 : Hid (Sl tBal w4 (fun _ => True) ba lst) := Lib.hid (Sl.keep (fun k hk _ => hb.block k hk) HL3.out)
    clear hb
    go_wp2_with fail
    refine (r10Pick_any r xa xc lst ba bc 0 true w4 (Sl.keep (fun k hk _ => HB4.out.block k hk) HS.out) (by unfold maxLen; omega) HL4.out (by omega) HFT.out).mono ?_
    rintro en w5 ⟨v5, rfl, _, hb⟩
    have HB5 := Lib.hid (belows_then HB4.out HB4.out.size hb)
    clear hb HB1 HB2 HB3 HB4 HL1 HL2 HL3 HL4
    go_wp2_with fail
    obtain ⟨B, hB⟩ : ∃ B, w5.heap.size = B := ⟨_, rfl⟩
    have hrt : rightB e 0 p = true := by
      have h := HBT.out
      cases hh : rightB e 0 p with
      | true => rfl
      | false => unfold balT at h; rw [hh] at h; cases h
    obtain ⟨⟨he1, he2⟩, hp0, hp1⟩ := right_month hrt
    obtain ⟨hjq, hj0, hjp⟩ := jan_is hp0 hp1
    have hwj : wrap64 (janOf p - 1) = janOf p - 1 := by unfold wrap64; omega
    have HB0 : Hid ((balT J e 0 p).2 = 0) := Lib.hid (by rw [HBT.out])
    have HZ : Hid ((w5.alloc (.cells #[.int .i64 0, .int .i64 0] 110)).heap[B]? = some (.cells #[.int .i64 0, .int .i64 0] 110 (0, 0))) := Lib.hid (by rw [← hB]; exact blk_new w5 _)
    have HBA := Lib.hid (HB5.out.alloc HB5.out.size (.cells #[.int .i64 0, .int .i64 0] 110))
    have HBw : Hid (w.heap.size ≤ B) := Lib.hid (by rw [← hB]; exact HB5.out.size)
    have HJN : Hid (janOf p = janOf p) := Lib.hid rfl
    have HS1 : Hid (sixD r J e p = [sumI ((pickS r lst 1 false).map (·.2)), sumI ((pickS r lst 2 true).map (·.2)), sumI ((pickS r lst 3 true).map (·.2)), (retD r J e p).1, (refN r J e (janOf p) p).1, sumI ((pickS r lst 0 true).map (·.2))]) := Lib.hid (by unfold sixD; rw [HBT.out]; rfl)
    have HSB : Hid (∀ x ∈ sixD r J e p, I64 x) := Lib.hid (by
      have b1 := pickS_bd r 1 false lst HFT.out
      have b2 := pickS_bd r 2 true lst HFT.out
      have b3 := pickS_bd r 3 true lst HFT.out
      have b0 := pickS_bd r 0 true lst HFT.out
      have f1 : fitsB (retD r J e p).1 = true := by
        unfold retD
        split
        · rfl
        · rw [refN_is]; exact incM_fits _ _ _ _ _
      have f2 : fitsB (refN r J e (janOf p) p).1 = true := by rw [refN_is]; exact incM_fits _ _ _ _ _
      have g1 : -1000000000000000 ≤ (retD r J e p).1 ∧ (retD r J e p).1 ≤ 1000000000000000 := by simpa [fitsB] using f1
      have g2 : -1000000000000000 ≤ (refN r J e (janOf p) p).1 ∧ (refN r J e (janOf p) p).1 ≤ 1000000000000000 := by simpa [fitsB] using f2
      rw [HS1.out]
      intro x hx
      simp only [List.mem_cons, List.not_mem_nil, or_false] at hx
      rcases hx with rfl | rfl | rfl | rfl | rfl | rfl <;> exact i64_ofB (by omega) (by omega))
    generalize sumI ((pickS r lst 1 false).map (·.2)) = s1 at *
    generalize sumI ((pickS r lst 2 true).map (·.2)) = s2 at *
    generalize sumI ((pickS r lst 3 true).map (·.2)) = s3 at *
    generalize sumI ((pickS r lst 0 true).map (·.2)) = s0 at *
    have HNK0 : Hid (NetK r J e p 0 0 0) := Lib.hid ⟨fun h => by omega, fun _ => rfl, fun h => by omega, fun _ => rfl⟩
    rw [hB, hjq]
    clear hjq
    refine abs_world (S := fun wx => wx.heap[B]? = some (.cells #[.int .i64 0, .int .i64 0] 110 (0, 0)) ∧ Below w.heap.size w wx) ?_ ⟨HZ.out, HBA.out⟩
    rintro wx ⟨hzx, hbx⟩
    have HZX := Lib.hid hzx
    have HBX := Lib.hid hbx
    clear hzx hbx HZ HBA hrt hB HB5
    go_loopw [22, 23, 24, 25, 26, 27, 28, 29] (fun vk v23 v24 v25 v26 v27 v28 v29 wr => ∃ (k : Nat) (n0 n1 : Int), vk = .int .i64 k ∧ k ≤ 2 ∧ Hid (wr.heap[B]? = some (.cells #[.int .i64 n0, .int .i64 n1] 110 (0, 0))) ∧ Hid (NetK r J e p k n0 n1) ∧ Hid (Below w.heap.size w wr)) (fun vk _ _ _ _ _ _ _ _ => 2 - (intOf vk).toNat)
    case atStart => exact ⟨0, 0, 0, rfl, by omega, HZX, HNK0, HBX⟩
    case round =>
      obtain ⟨k, n0, n1, rfl, hk, HZ, HN, HB⟩ := hrel
      clear HZX HNK0 HBX
      have hcz := blk_cells HZ.out
      have hfz := blk_frz HZ.out
      have hlz := blk_lt HZ.out
      have hks : k = 0 ∨ k = 1 ∨ k = 2 := by omega
      rcases hks with rfl | rfl | rfl
      · obtain rfl := HN.out.b rfl
        obtain rfl := HN.out.d (by omega)
        by_cases hj : janOf p = 0
        · have HN1 : Hid (NetK r J e p 1 0 0) := Lib.hid (by
            have hr : retD r J e p = (0, 0) := by unfold retD; rw [hj]; rfl
            exact ⟨fun _ => by rw [hr]; exact ⟨rfl, rfl⟩, fun h => by omega, fun h => by omega, fun _ => rfl⟩)
          rw [hj] at hwj
          rw [hj]
          go_wp2_with fail
          go_roundw
          case rel => exact ⟨1, 0, 0, rfl, by omega, HZ, HN1, HB⟩
          case measure => simp [intOf]
        · have hj1 : 0 ≤ janOf p - 1 := by omega
          have hret : retD r J e p = refN r J e 0 (janOf p - 1) := by unfold retD; rw [if_neg (by omega)]
          obtain ⟨l1, er1, hb1⟩ : ∃ l er, balT J e 0 (janOf p - 1) = (l, er) := ⟨_, _, rfl⟩
          have HRB := Lib.hid (r10Balances_all J fa fc e 0 (janOf p - 1) wr (Sl.keep (fun k hk _ => HB.out.block k hk) HT.out) HV.out)
          have HF1 : Hid (∀ x ∈ l1, fitsB x.2 = true) := Lib.hid (by have := balT_fit (J := J) (e := e) (f := 0) (t := janOf p - 1); rw [hb1] at this; exact this)
          have hl1 : l1.length ≤ 800 := by have := balT_len HV.out.good hJl e 0 (janOf p - 1); rw [hb1] at this; exact this
          rw [hb1] at HRB
          have HE : Hid (er1 ≠ 0 → retD r J e p = (0, er1)) := Lib.hid (fun h => by rw [hret]; exact refN_1 hb1 h)
          have HO : Hid (er1 = 0 → retD r J e p = if netF r l1 then (netA r l1 - netB r l1, 0) else (0, 2)) := Lib.hid (fun h => by rw [hret]; subst h; exact refN_2 hb1)
          clear hb1 hret hj
          obtain ⟨q, hq⟩ : ∃ q, janOf p - 1 = q := ⟨_, rfl⟩
          rw [hq] at hwj HRB hj1
          go_wp2_with fail
          refine HRB.out.mono ?_
          rintro en w6 ⟨v6, rfl, ho, hb⟩
          obtain ⟨qa, qc, rfl⟩ := ho.isSl
          have HL6 : Hid (Sl tBal w6 (fun _ => True) qa l1) := Lib.hid ho.slice'
          have HB6 := Lib.hid (belows_then HB.out HB.out.size hb)
          have HZ6 := Lib.hid (blk_below HZ.out hb)
          clear ho hb HRB hcz hfz hlz
          simp only
          by_cases h1 : er1 = 0
          · have hrd := HO.out h1
            subst h1
            go_wp2_with fail
            refine (r10Net_any r xa xc l1 qa qc w6 (Sl.keep (fun k hk _ => HB6.out.block k hk) HS.out) (by unfold maxLen; omega) HL6.out (by omega) HF1.out).mono ?_
            rintro en w7 ⟨rfl, hb⟩
            have HB7 := Lib.hid (belows_then HB6.out HB6.out.size hb)
            have HZ7 := Lib.hid (blk_below HZ6.out hb)
            have hcz := blk_cells HZ7.out
            have hfz := blk_frz HZ7.out
            have hlz := blk_lt HZ7.out
            have b1 := pickS_bd r 4 true l1 HF1.out
            have b2 := pickS_bd r 5 false l1 HF1.out
            change _ ≤ netA r l1 ∧ netA r l1 ≤ _ at b1
            change _ ≤ netB r l1 ∧ netB r l1 ≤ _ at b2
            clear hb HB6 HZ6 HL6 HF1 HE HO HZ
            generalize netA r l1 = A1 at *
            generalize netB r l1 = A2 at *
            have hw : IntKind.i64.wrap (A1 - A2) = A1 - A2 := wrap_is (by omega) (by omega)
            have hcf : netF r l1 = false ∨ netF r l1 = true := by cases netF r l1 <;> simp
            rcases hcf with hf | hf
            · rw [hf] at hrd ⊢
              have HDE : Hid (t = ([], 2)) := Lib.hid (by
                have h := shD_1 (r := r) (J := J) (e := e) (p := p) HB0.out (by rw [hrd]; simp)
                rw [hrd] at h
                rw [← HD.out, h]
                rfl)
              clear hrd hf
              go_wp2_with fail
              go_ret2
              rw [HDE.out]
              exact ⟨none, 0, rfl, by intro i x hx; simp at hx, HB7.out⟩
            · rw [hf] at hrd ⊢
              have HN1 : Hid (NetK r J e p 1 (A1 - A2) 0) := Lib.hid ⟨fun _ => by rw [hrd]; exact ⟨rfl, rfl⟩, fun h => by omega, fun h => by omega, fun _ => rfl⟩
              have HZ8 : Hid ((w7.setCell ⟨B, 0, none⟩ (.int .i64 (A1 - A2))).heap[B]? = some (.cells #[.int .i64 (A1 - A2), .int .i64 0] 110 (0, 0))) := Lib.hid (by have := blk_set HZ7.out 0 (.int .i64 (A1 - A2)); simpa using this)
              have HB8 := Lib.hid (HB7.out.setCell (p := ⟨B, 0, none⟩) HBw.out (.int .i64 (A1 - A2)))
              clear hrd hf
              go_wp2_with fail
              go_roundw
              case rel => exact ⟨1, _, _, rfl, by omega, HZ8, HN1, HB8⟩
              case measure => simp [intOf]
          · have hne : (er1 != 0) = true := by simpa using h1
            have hrd := HE.out h1
            have HDE : Hid (t = ([], er1)) := Lib.hid (by
              have h := shD_1 (r := r) (J := J) (e := e) (p := p) HB0.out (by rw [hrd]; exact h1)
              rw [hrd] at h
              rw [← HD.out, h])
            clear hrd h1 HE HO
            go_wp2_with fail
            go_ret2
            rw [HDE.out]
            exact ⟨none, 0, rfl, by intro i x hx; simp at hx, HB6.out⟩
      · obtain rfl := HN.out.d (by omega)
        obtain ⟨l1, er1, hb1⟩ : ∃ l er, balT J e (janOf p) p = (l, er) := ⟨_, _, rfl⟩
        have HRB := Lib.hid (r10Balances_all J fa fc e (janOf p) p wr (Sl.keep (fun k hk _ => HB.out.block k hk) HT.out) HV.out)
        have HF1 : Hid (∀ x ∈ l1, fitsB x.2 = true) := Lib.hid (by have := balT_fit (J := J) (e := e) (f := janOf p) (t := p); rw [hb1] at this; exact this)
        have hl1 : l1.length ≤ 800 := by have := balT_len HV.out.good hJl e (janOf p) p; rw [hb1] at this; exact this
        rw [hb1] at HRB
        have HE : Hid (er1 ≠ 0 → refN r J e (janOf p) p = (0, er1)) := Lib.hid (fun h => by exact refN_1 hb1 h)
        have HO : Hid (er1 = 0 → refN r J e (janOf p) p = if netF r l1 then (netA r l1 - netB r l1, 0) else (0, 2)) := Lib.hid (fun h => by subst h; exact refN_2 hb1)
        clear hb1
        go_wp2_with fail
        refine HRB.out.mono ?_
        rintro en w6 ⟨v6, rfl, ho, hb⟩
        obtain ⟨qa, qc, rfl⟩ := ho.isSl
        have HL6 : Hid (Sl tBal w6 (fun _ => True) qa l1) := Lib.hid ho.slice'
        have HB6 := Lib.hid (belows_then HB.out HB.out.size hb)
        have HZ6 := Lib.hid (blk_below HZ.out hb)
        clear ho hb HRB hcz hfz hlz
        simp only
        by_cases h1 : er1 = 0
        · have hrd := HO.out h1
          subst h1
          go_wp2_with fail
          refine (r10Net_any r xa xc l1 qa qc w6 (Sl.keep (fun k hk _ => HB6.out.block k hk) HS.out) (by unfold maxLen; omega) HL6.out (by omega) HF1.out).mono ?_
          rintro en w7 ⟨rfl, hb⟩
          have HB7 := Lib.hid (belows_then HB6.out HB6.out.size hb)
          have HZ7 := Lib.hid (blk_below HZ6.out hb)
          have hcz := blk_cells HZ7.out
          have hfz := blk_frz HZ7.out
          have hlz := blk_lt HZ7.out
          have b1 := pickS_bd r 4 true l1 HF1.out
          have b2 := pickS_bd r 5 false l1 HF1.out
          change _ ≤ netA r l1 ∧ netA r l1 ≤ _ at b1
          change _ ≤ netB r l1 ∧ netB r l1 ≤ _ at b2
          clear hb HB6 HZ6 HL6 HF1 HE HO HZ
          generalize netA r l1 = A1 at *
          generalize netB r l1 = A2 at *
          have hw : IntKind.i64.wrap (A1 - A2) = A1 - A2 := wrap_is (by omega) (by omega)
          have hcf : netF r l1 = false ∨ netF r l1 = true := by cases netF r l1 <;> simp
          rcases hcf with hf | hf
          · rw [hf] at hrd ⊢
            have HDE : Hid (t = ([], 2)) := Lib.hid (by
              have h := shD_2 (r := r) (J := J) (e := e) (p := p) HB0.out (HN.out.a (by omega)).2 (by rw [hrd]; simp)
              rw [hrd] at h
              rw [← HD.out, h]
              rfl)
            clear hrd hf
            go_wp2_with fail
            go_ret2
            rw [HDE.out]
            exact ⟨none, 0, rfl, by intro i x hx; simp at hx, HB7.out⟩
          · rw [hf] at hrd ⊢
            have HN1 : Hid (NetK r J e p 2 n0 (A1 - A2)) := Lib.hid ⟨fun _ => HN.out.a (by omega), fun h => by omega, fun _ => by rw [hrd]; exact ⟨rfl, rfl⟩, fun h => by omega⟩
            have HZ8 : Hid ((w7.setCell ⟨B, 1, none⟩ (.int .i64 (A1 - A2))).heap[B]? = some (.cells #[.int .i64 n0, .int .i64 (A1 - A2)] 110 (0, 0))) := Lib.hid (by have := blk_set HZ7.out 1 (.int .i64 (A1 - A2)); simpa using this)
            have HB8 := Lib.hid (HB7.out.setCell (p := ⟨B, 1, none⟩) HBw.out (.int .i64 (A1 - A2)))
            clear hrd hf
            go_wp2_with fail
            go_roundw
            case rel => exact ⟨2, _, _, rfl, by omega, HZ8, HN1, HB8⟩
            case measure => simp [intOf]
        · have hne : (er1 != 0) = true := by simpa using h1
          have hrd := HE.out h1
          have HDE : Hid (t = ([], er1)) := Lib.hid (by
            have h := shD_2 (r := r) (J := J) (e := e) (p := p) HB0.out (HN.out.a (by omega)).2 (by rw [hrd]; exact h1)
            rw [hrd] at h
            rw [← HD.out, h])
          clear hrd h1 HE HO
          go_wp2_with fail
          go_ret2
          rw [HDE.out]
          exact ⟨none, 0, rfl, by intro i x hx; simp at hx, HB6.out⟩
      · obtain ⟨e1, r1⟩ := HN.out.a (by omega)
        obtain ⟨e2, r2⟩ := HN.out.c (by omega)
        have HD3 := Lib.hid (shD_3 (r := r) (J := J) (e := e) (p := p) HB0.out r1 r2)
        have hsx := HS1.out
        rw [← e1, ← e2] at hsx
        have HSX := Lib.hid hsx
        clear hsx e1 e2 r1 r2 HS1 HN
        obtain ⟨X, hX⟩ : ∃ X, sixD r J e p = X := ⟨_, rfl⟩
        rw [hX] at HD3 HSX HSB
        have HOL : Hid (X.length = 6) := Lib.hid (by rw [HSX.out]; rfl)
        clear hX hwj hj0 hjp
        go_wp2_with fail
        obtain ⟨D, hD⟩ : ∃ D, wr.heap.size = D := ⟨_, rfl⟩
        have HBD : Hid (Below w.heap.size w (wr.alloc (.cells #[.int .i64 s1, .int .i64 s2, .int .i64 s3, .int .i64 n0, .int .i64 n1, .int .i64 s0] 3))) := Lib.hid (HB.out.alloc HB.out.size _)
        have HSD : Hid (Sl tInt (wr.alloc (.cells #[.int .i64 s1, .int .i64 s2, .int .i64 s3, .int .i64 n0, .int .i64 n1, .int .i64 s0] 3)) (fun _ => True) (some ⟨D, 0, none⟩) X) := Lib.hid (by
          have hb := blk_new wr (.cells #[.int .i64 s1, .int .i64 s2, .int .i64 s3, .int .i64 n0, .int .i64 n1, .int .i64 s0] 3)
          rw [hD] at hb
          rw [HSX.out]
          have hx := HSB.out
          rw [HSX.out] at hx
          refine sl_block _ [[.int .i64 s1], [.int .i64 s2], [.int .i64 s3], [.int .i64 n0], [.int .i64 n1], [.int .i64 s0]] rfl (by simp; rfl) hb trivial (fun i c x hi hxi => ?_)
          have hm := hx x (List.mem_of_getElem? hxi)
          match i, hi, hxi with
          | 0, hi, hxi => simp at hi hxi; subst hi; subst hxi; exact ⟨rfl, hm⟩
          | 1, hi, hxi => simp at hi hxi; subst hi; subst hxi; exact ⟨rfl, hm⟩
          | 2, hi, hxi => simp at hi hxi; subst hi; subst hxi; exact ⟨rfl, hm⟩
          | 3, hi, hxi => simp at hi hxi; subst hi; subst hxi; exact ⟨rfl, hm⟩
          | 4, hi, hxi => simp at hi hxi; subst hi; subst hxi; exact ⟨rfl, hm⟩
          | 5, hi, hxi => simp at hi hxi; subst hi; subst hxi; exact ⟨rfl, hm⟩
          | i + 6, hi, hxi => simp at hi)
        rw [hD]
        obtain ⟨ad, had⟩ : ∃ ad : Addr, (⟨D, 0, none⟩ : Addr) = ad := ⟨_, rfl⟩
        rw [had] at HSD ⊢
        clear had
        refine abs_world (S := fun wy => Below w.heap.size w wy ∧ Sl tInt wy (fun _ => True) (some ad) X) ?_ ⟨HBD.out, HSD.out⟩
        rintro wy ⟨hby, hsy⟩
        have HBY := Lib.hid hby
        have HSY := Lib.hid hsy
        have h6 := HOL.out
        clear hby hsy HBD HSD hcz hfz hlz hD HZ HB HSX HSB HBT HFT HS HT HV
        go_loopw [31] (fun vi wr => ∃ (n : Nat), vi = .int .i64 n ∧ n ≤ 6 ∧ Hid ((X.take n).all fitsB = true) ∧ Hid (Below wy.heap.size wy wr)) (fun vi _ => 6 - (intOf vi).toNat)
        case atStart => exact ⟨0, rfl, by omega, Lib.hid rfl, Lib.hid (Below.refl _ _)⟩
        case round =>
          obtain ⟨n, rfl, hn, HA, HBQ⟩ := hrel
          have HBW := Lib.hid (HBY.out.trans (HBQ.out.mono HBY.out.size))
          by_cases hlt : n < 6
          · have hlx : n < X.length := by omega
            obtain ⟨ad', hae, hadl, hc0⟩ := int_at (Sl.keep (fun k hk _ => HBQ.out.block k hk) HSY.out) n hlx
            injection hae with hae
            subst hae
            have HT1 := Lib.hid (List.take_succ_eq_append_getElem hlx)
            have HM : Hid (X[n] ∈ X) := Lib.hid (List.getElem_mem hlx)
            generalize X[n] = x at *
            obtain ⟨b, hb⟩ : ∃ b, fitsB x = b := ⟨_, rfl⟩
            have hrf := rfits_any x wr
            rw [hb] at hrf
            have HRF := Lib.hid hrf
            have HB := Lib.hid hb
            clear hb hrf
            go_wp2_with fail
            refine HRF.out.mono ?_
            rintro en w7 ⟨rfl, rfl⟩
            cases b
            · have HDE : Hid (t = ([], 2)) := Lib.hid (by
                rw [← HD.out, HD3.out]
                have : X.all fitsB = false := by
                  rw [List.all_eq_false]
                  exact ⟨x, HM.out, by rw [HB.out]; simp⟩
                rw [this]
                rfl)
              go_wp2_with fail
              go_ret2
              rw [HDE.out]
              exact ⟨none, 0, rfl, by intro i x hx; simp at hx, HBW.out⟩
            · have HA2 : Hid ((X.take (n + 1)).all fitsB = true) := Lib.hid (by rw [HT1.out, List.all_append, HA.out]; simp [HB.out])
              go_wp2_with fail
              go_roundw
              case rel => exact ⟨n + 1, by go_num, by omega, HA2, HBQ⟩
              case measure => simp [intOf]; omega
          · obtain rfl : n = 6 := by omega
            have HDE : Hid (t = (X, 0)) := Lib.hid (by
              have h := HA.out
              rw [List.take_of_length_le (by omega)] at h
              rw [← HD.out, HD3.out, h]
              rfl)
            have HSW := Lib.hid (Sl.keep (fun k hk _ => HBQ.out.block k hk) HSY.out)
            go_wp2_with fail
            go_ret2
            rw [HDE.out]
            simp only
            rw [h6]
            exact ⟨some ad, 6, rfl, HSW.out, HBW.out⟩
  · have HDE : Hid (t = ([], ber)) := Lib.hid (by
      have h := shD_0 (r := r) (J := J) (e := e) (p := p) (by rw [HBT.out]; exact h0)
      rw [HBT.out] at h
      rw [← HD.out, h])
    have hne : (ber != 0) = true := by simpa using h0
    go_wp2_with fail
    go_ret2
    rw [HDE.out]
    exact ⟨none, 0, rfl, by intro i x hx; simp at hx, HB1.out⟩
end Go.Proofs.YtfnmlpnncjhnmaaGreat
