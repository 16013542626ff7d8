/- book: Post, wherever the journal goes. -/
import Derived.Test.YtfnmlpnncjhnmaaGreatX32SheetMoves
import Derived.Test.YtfnmlpnncjhnmaaGreatX19SheetMoves
import Derived.Test.YtfnmlpnncjhnmaaGreatX02SheetMoves
import Derived.Test.YtfnmlpnncjhnmaaGreatX31SheetMoves
import Derived.Test.YtfnmlpnncjhnmaaGreatX15SheetMoves
import Derived.Test.YtfnmlpnncjhnmaaGreatX21SheetMoves
import Derived.Test.YtfnmlpnncjhnmaaGreatX06SheetMoves
set_option linter.unusedVariables false
set_option linter.unusedSimpArgs false
namespace Go.Proofs.YtfnmlpnncjhnmaaGreat
open Go.RowKit Go.Maps

theorem insert_any {w : World} {base : Nat} {F : Nat → Prop} {v : Value} {xs : List Jn} (hown : OwnF tJn w base F v xs) (hbase : base ≤ w.heap.size) (hlen : xs.length ≤ 1000) (k : Nat) (hk : k ≤ xs.length) (j : Jn) (ja : Option Addr) (jc bj : Nat)
    (hbj : w.heap[bj]? = some (.cells #[.int .i64 j.id, .int .i64 j.en, .int .i64 j.pe, .string j.ref, .slice ja j.lines.length jc, .bool j.void] 88 (0, 0))) (hne : v.ownBlock ≠ some bj)
    (hj : tJn.R w (fun k => F k ∧ some k ≠ v.ownBlock ∧ k < w.heap.size) (jcs j ja jc) j) :
    Calls Tryz.prog 106 #[v, .int .i64 k, .slice (some ⟨bj, 0, none⟩) 1 1] w (InsPost w base F v (xs.take k ++ [j] ++ xs.drop k)) := by
  by_cases h : k < xs.length
  · exact insert_mid hown hbase hlen k h j ja jc bj hbj hne hj
  · obtain rfl : k = xs.length := by omega
    rw [List.take_length, List.drop_length, List.append_nil]
    exact insert_end hown hbase hlen j ja jc bj hbj hj
theorem ins_fresh {w5 : World} {base : Nat} {F : Nat → Prop} {v : Value} {l : List Jn} (h : OwnF tJn w5 base F v l) : v.ownBlock ≠ some w5.heap.size := fun e => by
  have := (h.lt _ e).2
  omega
theorem lowB_split : ∀ (l : List Jn) (id : Int), l.Pairwise (fun x y => x.id < y.id) → (∀ x ∈ l, x.id ≠ id) → (∀ y ∈ l.take (lowB l id), y.id < id) ∧ (∀ y ∈ l.drop (lowB l id), id < y.id)
  | [], _, _, _ => by simp
  | x :: r, id, hp, hn => by
    obtain ⟨h1, h2⟩ := List.pairwise_cons.1 hp
    have hx := hn x (List.mem_cons_self ..)
    obtain ⟨i1, i2⟩ := lowB_split r id h2 (fun y hy => hn y (List.mem_cons_of_mem _ hy))
    by_cases hlt : x.id < id
    · have e : lowB (x :: r) id = lowB r id + 1 := by unfold lowB; rw [List.countP_cons_of_pos (by simpa using hlt)]
      rw [e, List.take_succ_cons, List.drop_succ_cons]
      refine ⟨fun y hy => ?_, i2⟩
      rcases List.mem_cons.1 hy with rfl | hy
      · exact hlt
      · exact i1 y hy
    · have e : lowB (x :: r) id = 0 := by
        unfold lowB
        rw [List.countP_eq_zero]
        intro y hy
        simp
        rcases List.mem_cons.1 hy with rfl | hy
        · omega
        · have := h1 y hy
          omega
      rw [e]
      refine ⟨by simp, fun y hy => ?_⟩
      rw [List.drop_zero] at hy
      rcases List.mem_cons.1 hy with rfl | hy
      · omega
      · have := h1 y hy
        omega
def PostAny (w : World) (base g : Nat) (v : Value) (l : List Jn) (j : Jn) (e : Ending) (w' : World) : Prop :=
  e = .returned (.int .i64 (postJ l j)) ∧ But (fun k => k = g ∨ v.ownBlock = some k) w w' ∧ (postJ l j ≠ 0 → BookOwn w' base g v l) ∧ (postJ l j = 0 → ∃ v', BookOwn w' base g v' (putJ l j))

set_option maxHeartbeats 8000000 in
set_option maxRecDepth 100000 in
theorem post_any {w : World} {base g : Nat} {v : Value} {l : List Jn} (h : BookOwn w base g v l) (hbase : base ≤ w.heap.size) (hl : l.length ≤ 1000) (hO : OrdJ l) (j : Jn) (ja : Option Addr) (jc : Nat) {F : Nat → Prop} (hj : tJn.R w F (jcs j ja jc) j) :
    Calls Tryz.prog 31 #[.pointer (some ⟨g, 0, none⟩), jnv j ja jc] w (PostAny w base g v l j) := by
  obtain ⟨a, cap, rfl, hat⟩ := h.at_
  have hgl := blk_lt h.cell
  have H := Lib.hid h
  have HAT := Lib.hid hat
  have HO := Lib.hid hO
  have HJ := Lib.hid hj
  have hcs := post_cases l j
  generalize hp : postJ l j = p at hcs
  generalize hc : chk j = c at hcs
  have HP := Lib.hid hp
  have HC := Lib.hid hc
  obtain ⟨q1, q2, q3, q4, q5, _, _, _⟩ := jcs_inv hj
  have HI := Lib.hid q1
  have HPE := Lib.hid q3
  have HSZ := Lib.hid q4
  have HLN := Lib.hid q5
  have hgo : PostAny w base g (.slice a l.length cap) l j = fun e w' => e = .returned (.int .i64 p) ∧ But (fun k => k = g ∨ (Value.slice a l.length cap).ownBlock = some k) w w' ∧ (p ≠ 0 → BookOwn w' base g (.slice a l.length cap) l) ∧ (p = 0 → ∃ v', BookOwn w' base g v' (putJ l j)) := by
    funext e w'; unfold PostAny; rw [hp]
  clear h hat hO hj hp hc q1 q2 q3 q4 q5 hgo
  obtain ⟨id, en, pe, ref, lines, void⟩ := j
  simp only at HI HPE HSZ HLN hcs
  have HZ := Lib.hid (blk_new w (.cells #[.int .i64 id, .int .i64 en, .int .i64 pe, .string ref, .slice ja lines.length jc, .bool void] 88))
  have HB := Lib.hid ((Below.refl w.heap.size w).alloc (Nat.le_refl _) (.cells #[.int .i64 id, .int .i64 en, .int .i64 pe, .string ref, .slice ja lines.length jc, .bool void] 88))
  have HS1 : Hid (Sl tLn (w.alloc (.cells #[.int .i64 id, .int .i64 en, .int .i64 pe, .string ref, .slice ja lines.length jc, .bool void] 88)) F ja lines) := Lib.hid (Sl.keep (fun k hk _ => Below.heap_alloc w _ k hk) HLN.out)
  go_enter Tryz.func31, Tryz.ntmps31
  go_wp2_with fail
  refine (echeck_is ⟨id, en, pe, ref, lines, void⟩ ja jc _ HSZ.out HPE.out HS1.out HC.out).mono ?_
  rintro e w2 ⟨rfl, hb⟩
  have hz := blk_below HZ.out hb
  have HZ2 := Lib.hid hz
  have HB2 := Lib.hid (belows_then HB.out (by simp) hb)
  clear hb HS1
  have hzc := blk_cells hz
  have hzl := blk_lt hz
  clear hz
  rcases hcs with ⟨h1, h2⟩ | ⟨h1, hcs⟩
  · go_wp2_with fail
    go_ret
    refine ⟨by rw [HP.out, h2]; rfl, But.of_below HB2.out _, fun _ => H.out.below HB2.out, fun h => ?_⟩
    rw [HP.out, h2] at h
    rw [h] at h1
    simp at h1
  · have hc0 : chk ⟨id, en, pe, ref, lines, void⟩ = 0 := by rw [HC.out]; simpa using h1
    have hid := chk_id hc0
    have HNE := Lib.hid hid.2.2
    have HIN : Hid (inId id = true) := Lib.hid (by have := hid.1; have := hid.2.1; simp only at *; simp [inId]; omega)
    clear hid hc0
    go_wp2_with fail
    refine (find_any (HAT.out.below HB2.out) (by omega) HO.out id HI.out).mono ?_
    rintro e w3 ⟨k, rfl, hen, hb⟩
    have HEN := Lib.hid hen
    have hkl := hen.le
    clear hen
    have hz := blk_below HZ2.out hb
    have HZ3 := Lib.hid hz
    have HB3 := Lib.hid (belows_then HB2.out HB2.out.size hb)
    clear hb hzc hzl
    have hzc := blk_cells hz
    have hzl := blk_lt hz
    clear hz
    rcases hcs with ⟨h3, h4⟩ | ⟨hhas, hcs⟩
    · rw [h3]
      go_wp2_with fail
      go_ret
      exact ⟨by rw [HP.out, h4]; rfl, But.of_below HB3.out _, fun _ => H.out.below HB3.out, fun h => by rw [HP.out, h4] at h; cases h⟩
    rw [hhas]
    have HPUT : Hid (∃ M, l.take k ++ [(⟨id, en, pe, ref, lines, void⟩ : Jn)] ++ l.drop k = M ∧ putJ l ⟨id, en, pe, ref, lines, void⟩ = M) := Lib.hid ⟨_, rfl, by
      obtain ⟨g1, g2⟩ := lowB_split l id (incJ_iff.1 HO.out.ord) (fun x hx e => by
        have : hasJ l id = true := hasJ_iff.2 ⟨x, hx, e⟩
        rw [hhas] at this
        cases this)
      rw [← HEN.out.low HIN.out] at g1 g2
      have h := putJ_split ⟨id, en, pe, ref, lines, void⟩ (l.take k) (l.drop k) g1 g2
      rw [List.take_append_drop] at h
      rw [h, List.append_assoc]
      rfl⟩
    obtain ⟨M, hM, hPM⟩ := HPUT.out
    have HM := Lib.hid hM
    have HPM := Lib.hid hPM
    clear hhas HPUT hM hPM HEN
    rcases hcs with ⟨h3, h4⟩ | ⟨h3, hcs⟩
    · have HT := Lib.hid h3
      clear h3
      go_wp2_with fail
      refine (taken_is (HAT.out.below HB3.out) ⟨id, en, pe, ref, lines, void⟩ ja jc HT.out).mono ?_
      rintro e w4 ⟨rfl, hb⟩
      have HB4 := Lib.hid (belows_then HB3.out HB3.out.size hb)
      clear hb
      go_wp2_with fail
      go_ret
      exact ⟨by rw [HP.out, h4]; rfl, But.of_below HB4.out _, fun _ => H.out.below HB4.out, fun h => by rw [HP.out, h4] at h; cases h⟩
    · have HT := Lib.hid h3
      clear h3
      go_wp2_with fail
      refine (taken_is (HAT.out.below HB3.out) ⟨id, en, pe, ref, lines, void⟩ ja jc HT.out).mono ?_
      rintro e w4 ⟨rfl, hb⟩
      have hz := blk_below HZ3.out hb
      have HZ4 := Lib.hid hz
      have HB4 := Lib.hid (belows_then HB3.out HB3.out.size hb)
      clear hb hzc hzl
      have hzc := blk_cells hz
      have hzl := blk_lt hz
      clear hz
      have hgb := HB4.out.block g hgl
      have hgc := blk_cells (hgb.trans H.out.cell)
      have hgf := blk_frz (hgb.trans H.out.cell)
      have hgl4 := blk_lt (hgb.trans H.out.cell)
      clear hgb
      rcases hcs with ⟨h5, h6⟩ | ⟨h5, h6⟩
      · go_wp2_with fail
        go_ret
        exact ⟨by rw [HP.out, h6]; rfl, But.of_below HB4.out _, fun _ => H.out.below HB4.out, fun h => by rw [HP.out, h6] at h; cases h⟩
      · have hzn : ¬ w.heap.size = g := by omega
        have HRJ : Hid (tJn.R w4.drew F (jcs ⟨id, en, pe, ref, lines, void⟩ ja jc) ⟨id, en, pe, ref, lines, void⟩) := Lib.hid (tJn.keep (fun k hk _ => HB4.out.block k hk) HJ.out)
        have HO4 : Hid (OwnF tJn w4.drew base (fun k => base ≤ k ∧ k ≠ g) (.slice a l.length cap) l) := Lib.hid ((H.out.below HB4.out).own.keep (Nat.le_refl _) (fun k hk => rfl))
        have HG4 : Hid (w4.drew.heap[g]? = some (.cells #[.slice a l.length cap] 152 (0, 0))) := Lib.hid (H.out.below HB4.out).cell
        have HB5 := Lib.hid (Below.drew HB4.out)
        go_wp2_with fail
        go_region_with (first
          | (go_at_call 107; go_loud (refine (ecopy_any ⟨id, en, pe, ref, lines, void⟩ ja jc w4.drew HRJ.out HNE.out).mono ?_; rintro e w5 ⟨a5, c5, rfl, hb5, hr5⟩; have hg5 := blk_below HG4.out hb5; have HG5 := Lib.hid hg5; have hgc5 := blk_cells hg5; have hgf5 := blk_frz hg5; have hgl5 := blk_lt hg5; have HO5 := Lib.hid (HO4.out.below hb5); have HR5 := Lib.hid hr5; have HB6 := Lib.hid (belows_then HB5.out HB5.out.size hb5); clear hg5 hr5 hb5))
          | (go_at_call 106; go_loud (refine (insert_any (HO5.out.alloc (.cells #[.int .i64 id, .int .i64 en, .int .i64 pe, .string ref, .slice a5 lines.length c5, .bool void] 88)) (ins_base HB6.out hbase _) hl k hkl ⟨id, en, pe, ref, lines, void⟩ a5 c5 w5.heap.size (blk_new w5 _) (ins_fresh HO5.out) (ins_elem HR5.out HB5.out HO4.out hbase hgl4 _)).mono ?_; rintro e w6 ⟨v6, rfl, ho6, hg6, hat6⟩; rw [HM.out] at ho6; obtain ⟨a6, c6, rfl, _⟩ := ho6.slice; have HG6 := Lib.hid ((hg6.block g (by simp; omega) (ins_ne HO4.out HG4.out)).trans (blk_alloc HG5.out _)); have HO6 := Lib.hid ho6; have HGR := Lib.hid hg6; have HAT6 := Lib.hid hat6; clear ho6 hg6 hat6 hgc5 hgf5 hgl5; have hgc6 := blk_cells HG6.out; have hgf6 := blk_frz HG6.out; have hgl6 := blk_lt HG6.out)))
        all_goals
          go_wp2_with fail
          go_ret
          exact ⟨by rw [HP.out, h6]; rfl, But.setCell (((But.of_below HB6.out _).alloc _).grown HGR.out (fun k hk => .inl (.inr hk))) (.inl (.inl rfl)) _, fun h => by rw [HP.out] at h; exact absurd h6 h, fun _ => ⟨.slice a6 M.length c6, by rw [HPM.out]; exact ins_book HG6.out HO6.out H.out.ge HAT6.out HGR.out HO4.out HG4.out⟩⟩
end Go.Proofs.YtfnmlpnncjhnmaaGreat


/- Plain: what is moved between two accounts of a kind changes no sum of a sheet. -/
set_option linter.unusedVariables false
set_option linter.unusedSimpArgs false
namespace Go.Proofs.YtfnmlpnncjhnmaaGreat
open Go.RowKit Go.Maps Go.Deep

/-- the chart of the law -/
def mvRows (k : Int) : List Ac := [⟨9001, k, false⟩, ⟨9002, k, false⟩, ⟨1, 1, false⟩, ⟨2, 4, false⟩]
def mvChart (k : Int) : List Ac := [⟨1, 1, false⟩, ⟨2, 4, false⟩, ⟨9001, k, false⟩, ⟨9002, k, false⟩]
theorem mv_set {k : Int} (h1 : 1 ≤ k) (h2 : k ≤ 5) : setR (mvRows k) = mvChart k := by
  have hk : k = 1 ∨ k = 2 ∨ k = 3 ∨ k = 4 ∨ k = 5 := by omega
  rcases hk with rfl | rfl | rfl | rfl | rfl <;> decide +kernel
/-- the journal that moves -/
def mvJ (e p a : Int) : Jn := ⟨999998, e, p, ⟨#[]⟩, [⟨9001, a, 0⟩, ⟨9002, -a, 0⟩], false⟩
theorem put_parts {J : List Jn} (hV : ValJ J) {x : Jn} (h : postJ J x = 0) : ∃ A B, J = A ++ B ∧ putJ J x = A ++ x :: B := by
  have hh : hasJ J x.id = false := (post_zero h).2.1
  obtain ⟨g1, g2⟩ := lowB_split J x.id hV.inc (fun y hy e => by
    have : hasJ J x.id = true := hasJ_iff.2 ⟨y, hy, e⟩
    rw [hh] at this
    cases this)
  have hp := putJ_split x (J.take (lowB J x.id)) (J.drop (lowB J x.id)) g1 g2
  rw [List.take_append_drop] at hp
  exact ⟨_, _, (List.take_append_drop _ _).symm, hp⟩
theorem linesOf_app (a b : List Jn) (e f t : Int) : linesOf (a ++ b) e f t = linesOf a e f t ++ linesOf b e f t := by
  unfold linesOf
  rw [List.filter_append, List.flatMap_append]
theorem move_sum {J : List Jn} (hV : ValJ J) {e p a : Int} (h : postJ J (mvJ e p a) = 0) (q : Int → Bool) (hq : q 9001 = q 9002) (f t : Int) : sumQ q (linesOf (putJ J (mvJ e p a)) e f t) = sumQ q (linesOf J e f t) := by
  obtain ⟨A, B, hJ, hP⟩ := put_parts hV h
  rw [hP]
  conv => rhs; rw [hJ]
  rw [show A ++ mvJ e p a :: B = A ++ ([mvJ e p a] ++ B) from rfl, linesOf_app, linesOf_app, linesOf_app, sumQ_app, sumQ_app, sumQ_app]
  have h0 : sumQ q (linesOf [mvJ e p a] e f t) = 0 := by
    unfold linesOf
    rw [List.filter_cons]
    split
    · simp only [List.filter_nil, List.flatMap_cons, List.flatMap_nil, List.append_nil, mvJ, sumQ]
      rw [hq]
      cases q 9002 <;> simp
      omega
    · rfl
  omega
theorem kB_same {k : Int} (i : Int) : kB (mvChart k) [i] 9001 = kB (mvChart k) [i] 9002 := by
  unfold kB pickB findA mvChart
  simp
theorem outK_same {k : Int} : outK (mvChart k) 9001 = outK (mvChart k) 9002 := by
  unfold outK findA mvChart
  simp
theorem ret_one {r : List Ac} {J : List Jn} (hV : ValJ J) {e p : Int} (h1 : (retT r J e p).2 = 0) : (retT r J e p).1 = -sumQ (kB r [4]) (linesOf J e 0 (janOf p - 1)) - sumQ (kB r [5]) (linesOf J e 0 (janOf p - 1)) := by
  by_cases hj : janOf p = 0
  · have : (retT r J e p).1 = 0 := by unfold retT; rw [hj]; rfl
    rw [this, hj, show (0 : Int) - 1 = -1 from rfl, lines_none]
    rfl
  · have hb : (janOf p == 0) = false := by simpa using hj
    unfold retT at h1 ⊢
    rw [hb] at h1 ⊢
    exact net_sum hV h1
theorem cur_one {r : List Ac} {J : List Jn} (hV : ValJ J) {e p : Int} (h2 : (curT r J e p).2 = 0) : (curT r J e p).1 = -sumQ (kB r [4]) (linesOf J e (janOf p) p) - sumQ (kB r [5]) (linesOf J e (janOf p) p) := net_sum hV h2
theorem moves_is {k e p a : Int} {J : List Jn} (hV : ValJ J) (h : postJ J (mvJ e p a) = 0) (h1 : (shT (mvChart k) J e p).2 = 0) (h2 : (shT (mvChart k) (putJ J (mvJ e p a)) e p).2 = 0) : (shT (mvChart k) (putJ J (mvJ e p a)) e p).1 = (shT (mvChart k) J e p).1 := by
  have hV2 := (hV.put h).1
  obtain ⟨a1, a2, a3, a4⟩ := sh_sums hV h1
  obtain ⟨b1, b2, b3, b4⟩ := sh_sums hV2 h2
  obtain ⟨hE1, hv1⟩ := shT_ok h1
  obtain ⟨hE2, hv2⟩ := shT_ok h2
  obtain ⟨_, _, _, _, r1, c1, _⟩ := shE_ok hE1
  obtain ⟨_, _, _, _, r2, c2, _⟩ := shE_ok hE2
  have hr1 := ret_one hV r1
  have hr2 := ret_one hV2 r2
  have hc1 := cur_one hV c1
  have hc2 := cur_one hV2 c2
  have d1 : (shT (mvChart k) J e p).1.2.2.2.1 = (retT (mvChart k) J e p).1 := by rw [hv1]
  have d2 : (shT (mvChart k) J e p).1.2.2.2.2.1 = (curT (mvChart k) J e p).1 := by rw [hv1]
  have d3 : (shT (mvChart k) (putJ J (mvJ e p a)) e p).1.2.2.2.1 = (retT (mvChart k) (putJ J (mvJ e p a)) e p).1 := by rw [hv2]
  have d4 : (shT (mvChart k) (putJ J (mvJ e p a)) e p).1.2.2.2.2.1 = (curT (mvChart k) (putJ J (mvJ e p a)) e p).1 := by rw [hv2]
  have hm := fun i f t => move_sum hV h (kB (mvChart k) [i]) (kB_same i) f t
  have hmo := fun f t => move_sum hV h (outK (mvChart k)) outK_same f t
  rw [hm] at b1 b2 b3
  rw [hmo] at b4
  rw [hm, hm] at hr2 hc2
  refine Prod.ext (by omega) (Prod.ext (by omega) (Prod.ext (by omega) (Prod.ext (by omega) (Prod.ext (by omega) (by omega)))))
end Go.Proofs.YtfnmlpnncjhnmaaGreat


/- The document's balances: may it be asked, all lines. -/
set_option linter.unusedVariables false
set_option linter.unusedSimpArgs false
namespace Go.Proofs.YtfnmlpnncjhnmaaGreat
open Go.RowKit Go.Maps Go.Deep

set_option maxHeartbeats 4000000 in
theorem r10Right_is (e f t : Int) (h1 : 1 ≤ e) (h2 : e ≤ 9) (hf : monthOk f = true) (ht : monthOk t = true) (hft : f ≤ t) (w : World) : Calls Tryz.prog 37 #[.int .i64 e, .int .i64 f, .int .i64 t] w fun en w' => en = .returned (.bool true) ∧ Below w.heap.size w w' := by
  have HF := Lib.hid hf
  have HT := Lib.hid ht
  clear hf ht
  go_enter Tryz.func37, Tryz.ntmps37
  go_wp2_with fail
  refine (ref_valid_is f HF.out _).mono ?_
  rintro en w1 ⟨rfl, hb⟩
  have HB := Lib.hid hb
  clear hb
  go_wp2_with fail
  refine (ref_valid_is t HT.out _).mono ?_
  rintro en w2 ⟨rfl, hb⟩
  have HB2 := Lib.hid (belows_then HB.out HB.out.size hb)
  clear hb
  go_wp2_with fail
  go_ret
  exact ⟨rfl, HB2.out⟩

theorem Sl.ofLn {w W : World} {la : Option Addr} {xs : List Ln} {F : Nat → Prop} {v : Value} {B : Nat} (h : Sl tLn w F la xs) (hb : Below B w W) (hB : ∀ k, F k → k < B) (hv : ∀ k, v.ownBlock = some k → B ≤ k) : Sl tLn W (fun k => some k ≠ v.ownBlock ∧ k < W.heap.size) la xs := by
  intro i x hx
  obtain ⟨ad, ces, ha, hf, hlt, hc, hr⟩ := h i x hx
  have hs := hb.size
  have hl := hB _ hf
  refine ⟨ad, ces, ha, ⟨fun e => by have := hv _ e.symm; omega, by omega⟩, by omega, fun j u hu => ?_, ?_⟩
  · rw [← hc j u hu]
    exact World.cell?_of_block (w := w) (by rw [add_block, add_block]; exact hb.block _ hl)
  · obtain ⟨rfl, h1, h2, h3⟩ := ln_inv hr
    exact ln_mk _ h1 h2 h3

set_option maxHeartbeats 8000000 in
set_option maxRecDepth 100000 in
theorem r10Lines_any (J : List Jn) (a : Option Addr) (cap : Nat) (e f t : Int) (w : World) {F : Nat → Prop} (hs : Sl tJn w F a J) (hg : GoodJ J) (hl : J.length ≤ 1000) :
    Calls Tryz.prog 38 #[.slice a J.length cap, .int .i64 e, .int .i64 f, .int .i64 t] w fun en w' => ∃ v, en = .returned v ∧ OwnL tLn w' w.heap.size v (linesOf J e f t) ∧ Below w.heap.size w w' := by
  have HS : Hid (Sl tJn w (fun k => k < w.heap.size) a J) := Sl.mono (fun k hk _ => hk) hs
  have HG := Lib.hid hg
  clear hs hg
  obtain ⟨i0, hi, hz0, hz1, hz2⟩ := info_parts infoL
  go_enter Tryz.func38, Tryz.ntmps38
  go_wp2_with fail
  go_loopw [9, 10] (fun vo vi wr => ∃ (n : Nat) (vx : Value), vx = vo ∧ n ≤ J.length ∧ vi = .int .i64 n ∧ OwnL tLn wr w.heap.size vx (linesOf (J.take n) e f t) ∧ Below w.heap.size w wr) (fun _ vi _ => J.length - (intOf vi).toNat)
  case atStart => exact ⟨0, _, rfl, Nat.zero_le _, rfl, OwnL.nil _ _, Below.refl _ _⟩
  case round =>
    obtain ⟨n, vo, rfl, hn, rfl, ho, hb⟩ := hrel
    have HO := Lib.hid ho
    have HB := Lib.hid hb
    clear ho hb
    by_cases hlt : n < J.length
    · obtain ⟨ad, la, lc, rfl, _, hadl, hc0, hc1, hc2, hc3, hc4, hc5, hr⟩ := jn_at (Sl.keep (fun k hk _ => HB.out.block k hk) HS.out) n hlt
      have HTK := Lib.hid (linesOf_succ e f t J n hlt)
      have hnum : (linesOf (J.take n) e f t).length ≤ 8000 := linesOf_len (fun x hx => HG.out x (List.mem_of_mem_take hx)) (by rw [List.length_take]; omega) e f t
      have hgx := HG.out _ (List.getElem_mem hlt)
      obtain ⟨b, hcb⟩ : ∃ b, cnt e f t J[n] = b := ⟨_, rfl⟩
      have hcs := cnt_cases hcb
      rw [hcb] at HTK
      generalize J[n] = x at *
      have HLX := Lib.hid (jcs_inv hr).2.2.2.2.1
      clear hr hcb
      rcases hcs with ⟨rfl, h1 | ⟨h1, h2 | ⟨h2, h3 | ⟨h3, h4⟩⟩⟩⟩ | ⟨rfl, h1, h2, h3, h4⟩
      · have HN : Hid (linesOf (J.take (n + 1)) e f t = linesOf (J.take n) e f t) := Lib.hid (by rw [HTK.out]; simp)
        go_wp2_with fail
        go_roundw
        case rel => exact ⟨n + 1, _, rfl, by omega, by go_num, by rw [HN.out]; exact HO.out, HB.out⟩
        case measure => simp [intOf]; omega
      · have HN : Hid (linesOf (J.take (n + 1)) e f t = linesOf (J.take n) e f t) := Lib.hid (by rw [HTK.out]; simp)
        go_wp2_with fail
        go_roundw
        case rel => exact ⟨n + 1, _, rfl, by omega, by go_num, by rw [HN.out]; exact HO.out, HB.out⟩
        case measure => simp [intOf]; omega
      · have HN : Hid (linesOf (J.take (n + 1)) e f t = linesOf (J.take n) e f t) := Lib.hid (by rw [HTK.out]; simp)
        go_wp2_with fail
        go_roundw
        case rel => exact ⟨n + 1, _, rfl, by omega, by go_num, by rw [HN.out]; exact HO.out, HB.out⟩
        case measure => simp [intOf]; omega
      · have HN : Hid (linesOf (J.take (n + 1)) e f t = linesOf (J.take n) e f t) := Lib.hid (by rw [HTK.out]; simp)
        go_wp2_with fail
        go_roundw
        case rel => exact ⟨n + 1, _, rfl, by omega, by go_num, by rw [HN.out]; exact HO.out, HB.out⟩
        case measure => simp [intOf]; omega
      have HN : Hid (linesOf (J.take (n + 1)) e f t = linesOf (J.take n) e f t ++ x.lines) := Lib.hid (by rw [HTK.out]; simp)
      obtain ⟨lad, rfl⟩ : ∃ lad, la = some lad := by
        cases hxl : x.lines with
        | nil => exact absurd hxl hgx.1
        | cons y ys =>
          obtain ⟨ad', _, h, _⟩ := HLX.out 0 y (by rw [hxl]; rfl)
          exact ⟨ad', h⟩
      have HSL : Hid (Sl tLn wr (fun k => some k ≠ vo.ownBlock ∧ k < wr.heap.size) (some lad) x.lines) := Lib.hid (Sl.ofLn HLX.out (Below.refl w.heap.size wr) (fun k hk => hk) (fun k hk => (HO.out.lt k hk).1))
      have h63 : (linesOf (J.take n) e f t).length + x.lines.length ≤ maxLen := by have := hgx.2; unfold maxLen; omega
      have hby : ((linesOf (J.take n) e f t).length + x.lines.length) * 24 ≤ 140737488355328 := by have := hgx.2; omega
      clear hgx hadl
      go_wp2_with (at_builtin; refine wp_app (T := tLn) rfl _ _ 86 rfl i0 (.agg #[.int .i64 0, .int .i64 0, .int .i64 0]) 24 Tryz.underlying86 hi hz0 hz1 hz2 rfl (by decide) ln_one w.heap.size vo (linesOf (J.take n) e f t) rfl HO.out lad lc x.lines rfl HSL.out h63 hby HB.out.size ?_; intro v3 w3 hown hg hnil hat; have HO3 := Lib.hid hown; have HB3 := Lib.hid (Below.grown HB.out hg HB.out.size (fun k e => (HO.out.lt k e).1)); clear hown hg hnil hat)
      go_roundw
      case rel => exact ⟨n + 1, _, rfl, by omega, by go_num, by rw [HN.out]; exact HO3.out, HB3.out⟩
      case measure => simp [intOf]; omega
    · have HL : Hid (J.take n = J) := Lib.hid (take_all hn hlt)
      have hown := HO.out
      rw [HL.out] at hown
      have HW := Lib.hid hown
      clear hown
      go_wp2_with fail
      go_ret
      exact ⟨_, rfl, HW.out, HB.out⟩
end Go.Proofs.YtfnmlpnncjhnmaaGreat
