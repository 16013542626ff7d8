/- The document's balances: those that are not 0; those of a kind, and their sum; what is left. -/
import Derived.Test.YtgggpaacagbmcaaGreatX21GroupInner
import Derived.Test.YtgggpaacagbmcaaGreatX20GroupInner
import Derived.Test.YtgggpaacagbmcaaGreatX23GroupInner
set_option linter.unusedVariables false
set_option linter.unusedSimpArgs false
namespace Go.Proofs.YtgggpaacagbmcaaGreat
open Go.RowKit Go.Maps Go.Deep

def nzB (x : Int × Int) : Bool := x.2 != 0
def plainT (l : List (Int × Int)) : List (Int × Int) × Bool := if l.all (fun x => fitsB x.2) then (l.filter nzB, true) else ([], false)

set_option maxHeartbeats 8000000 in
set_option maxRecDepth 100000 in
theorem r10Plain_any (l : List (Int × Int)) (a : Option Addr) (cap : Nat) (w : World) {F : Nat → Prop} (hs : Sl tBal w F a l) (hl : l.length ≤ 10000) :
    Calls Tryz.prog 34 #[.slice a l.length cap] w fun en w' => ∃ v, en = .returned (.tuple #[v, .bool (plainT l).2]) ∧ OwnL tBal w' w.heap.size v (plainT l).1 ∧ Below w.heap.size w w' := by
  have HS := Lib.hid hs
  clear hs
  obtain ⟨i0, hi, hz0, hz1, hz2⟩ := info_parts infoBal
  go_enter Tryz.func34, Tryz.ntmps34
  go_wp2_with fail
  go_loopw [4, 5] (fun vo vi wr => ∃ (n : Nat) (vx : Value), vx = vo ∧ n ≤ l.length ∧ vi = .int .i64 n ∧ Hid ((l.take n).all (fun x => fitsB x.2) = true) ∧ OwnL tBal wr w.heap.size vx ((l.take n).filter nzB) ∧ Below w.heap.size w wr) (fun _ vi _ => l.length - (Go.RowKit.intOf vi).toNat)
  case atStart => exact ⟨0, _, rfl, Nat.zero_le _, rfl, Lib.hid rfl, OwnL.nil _ _, Below.refl _ _⟩
  case round =>
    obtain ⟨n, vo, rfl, hn, rfl, hall, ho, hb⟩ := hrel
    have HO := Lib.hid ho
    have HB := Lib.hid hb
    clear ho hb
    by_cases hlt : n < l.length
    · obtain ⟨ad, rfl, _, hadl, hc0, hc1, g0, g1⟩ := bal_at (Sl.keep (fun k hk _ => HB.out.block k hk) HS.out) n hlt
      have HA := Lib.hid (all_take_succ (fun x : Int × Int => fitsB x.2) l n hlt)
      have HY := Lib.hid (fun h => filter_yes nzB hlt h)
      have HN := Lib.hid (fun h => filter_no nzB hlt h)
      have HLN : Hid (((l.take n).filter nzB).length ≤ 20000) := Lib.hid (by
        have := List.length_filter_le nzB (l.take n)
        rw [List.length_take] at this
        omega)
      have HNO : Hid (fitsB l[n].2 = false → plainT l = ([], false)) := Lib.hid (fun h => by
        unfold plainT
        have : l.all (fun x => fitsB x.2) = false := by
          rw [List.all_eq_false]
          exact ⟨_, List.getElem_mem hlt, by rw [h]; decide⟩
        rw [this]
        rfl)
      generalize l[n] = x at *
      obtain ⟨k, v⟩ := x
      simp only at hc0 hc1 g0 g1 HNO
      have G0 := Lib.hid g0
      have G1 := Lib.hid g1
      clear g0 g1
      go_wp2_with fail
      refine (rfits_any v wr).mono ?_
      rintro en w2 ⟨rfl, rfl⟩
      cases hf : fitsB v
      · have HP := Lib.hid (HNO.out hf)
        go_wp2_with fail
        go_ret2
        rw [HP.out]
        exact ⟨_, rfl, OwnL.nil _ _, HB.out⟩
      · have HA2 : Hid ((l.take (n + 1)).all (fun x => fitsB x.2) = true) := Lib.hid (by rw [HA.out, hall.out]; exact hf)
        by_cases hv : v = 0
        · subst hv
          have HN2 := Lib.hid (HN.out rfl)
          go_wp2_with fail
          go_roundw
          case rel => exact ⟨n + 1, _, rfl, by omega, by go_num, HA2, by rw [HN2.out]; exact HO.out, HB.out⟩
          case measure => simp [Go.RowKit.intOf]; omega
        · have hv' : (v != 0) = true := by simpa using hv
          have HY2 := Lib.hid (HY.out hv')
          have HOA := Lib.hid (HO.out.alloc (.cells #[.int .i64 k, .int .i64 v] 62))
          have HBA := Lib.hid (HB.out.alloc HB.out.size (.cells #[.int .i64 k, .int .i64 v] 62))
          have hsl0 : Sl tBal ((w2).alloc (.cells #[.int .i64 k, .int .i64 v] 62)) (fun kk => some kk ≠ (vo).ownBlock ∧ kk < ((w2).alloc (.cells #[.int .i64 k, .int .i64 v] 62)).heap.size) (some ⟨(w2).heap.size, 0, none⟩) [((k, v) : Int × Int)] :=
            sl_one2 tBal (x := (k, v)) rfl (blk_new (w2) _) ⟨fun e => by have := (HO.out.lt _ e.symm).2; omega, by simp⟩ (bal_mk (k, v) G0.out G1.out)
          have hadr : (⟨(w2).heap.size, 0, none⟩ : Addr) = ⟨w2.heap.size, 0, none⟩ := by first | rfl | simp
          first | rw [hadr] at hsl0 | skip
          have HSL := Lib.hid hsl0
          clear hsl0 hadr
          have h63 : ((l.take n).filter nzB).length + [((k, v) : Int × Int)].length ≤ maxLen := by have := HLN.out; simp only [List.length_cons, List.length_nil, List.length_append]; unfold maxLen; omega
          have hby : (((l.take n).filter nzB).length + [((k, v) : Int × Int)].length) * 16 ≤ 140737488355328 := by have := HLN.out; simp only [List.length_cons, List.length_nil, List.length_append]; omega
          go_wp2_with (at_builtin; refine wp_app (T := tBal) rfl _ _ 49 rfl i0 (.agg #[.int .i64 0, .int .i64 0]) 16 Tryz.underlying49 hi hz0 hz1 hz2 rfl (by decide) bal_one w.heap.size vo ((l.take n).filter nzB) rfl HOA.out ⟨w2.heap.size, 0, none⟩ 1 [((k, v) : Int × Int)] rfl HSL.out h63 hby HBA.out.size ?_; intro v3 w3 hown hg hnil hat; have HO3 := Lib.hid hown; have HB3 := Lib.hid (Below.grown HBA.out hg HBA.out.size (fun k e => (HOA.out.lt k e).1)); skip; clear hown hg hnil hat)
          go_roundw
          case rel => exact ⟨n + 1, _, rfl, by omega, by go_num, HA2, by rw [HY2.out]; exact HO3.out, HB3.out⟩
          case measure => simp [Go.RowKit.intOf]; omega
    · have HP : Hid (plainT l = (l.filter nzB, true)) := Lib.hid (by
        have h := hall.out
        rw [take_all hn hlt] at h
        unfold plainT
        rw [h]
        rfl)
      have hown := HO.out
      rw [take_all hn hlt] at hown
      have HW := Lib.hid hown
      clear hown
      go_wp2_with fail
      go_ret2
      rw [HP.out]
      exact ⟨_, rfl, HW.out, HB.out⟩

/-- a balance, its sign turned or not -/
def turnB (b : Bool) (x : Int × Int) : Int × Int := if b then negB x else x
def kindP (r : List Ac) (kd : Int) (x : Int × Int) : Bool := kindA r x.1 == kd
def pickS (r : List Ac) (l : List (Int × Int)) (kd : Int) (b : Bool) : List (Int × Int) := (l.filter (kindP r kd)).map (turnB b)
theorem pickS_yes (r : List Ac) (l : List (Int × Int)) (kd : Int) (b : Bool) {n : Nat} (hn : n < l.length) (h : kindP r kd l[n] = true) : pickS r (l.take (n + 1)) kd b = pickS r (l.take n) kd b ++ [turnB b l[n]] := by
  unfold pickS
  rw [filter_yes _ hn h, List.map_append]
  rfl
theorem pickS_no (r : List Ac) (l : List (Int × Int)) (kd : Int) (b : Bool) {n : Nat} (hn : n < l.length) (h : kindP r kd l[n] = false) : pickS r (l.take (n + 1)) kd b = pickS r (l.take n) kd b := by
  unfold pickS
  rw [filter_no _ hn h]
theorem pickS_bd (r : List Ac) (kd : Int) (b : Bool) : ∀ (l : List (Int × Int)), (∀ x ∈ l, fitsB x.2 = true) → -(1000000000000000 * (l.length : Int)) ≤ sumI ((pickS r l kd b).map (·.2)) ∧ sumI ((pickS r l kd b).map (·.2)) ≤ 1000000000000000 * (l.length : Int)
  | [], _ => by simp [pickS, sumI]
  | x :: r', h => by
    have ih := pickS_bd r kd b r' (fun y hy => h y (List.mem_cons_of_mem _ hy))
    have hx := h x (List.mem_cons_self ..)
    have hb : -1000000000000000 ≤ x.2 ∧ x.2 ≤ 1000000000000000 := by simpa [fitsB] using hx
    unfold pickS at ih ⊢
    rw [List.filter_cons]
    split
    · simp only [List.map_cons, sumI, List.length_cons]
      have : (turnB b x).2 = x.2 ∨ (turnB b x).2 = -x.2 := by unfold turnB negB; cases b <;> simp
      omega
    · simp only [List.length_cons]
      omega

end Go.Proofs.YtgggpaacagbmcaaGreat


/- Plain: what is left, as a sum over lines. -/
set_option linter.unusedVariables false
set_option linter.unusedSimpArgs false
namespace Go.Proofs.YtgggpaacagbmcaaGreat
open Go.RowKit Go.Maps Go.Deep

theorem sumI_perm {a b : List Int} (h : a.Perm b) : sumI a = sumI b := by
  induction h with
  | nil => rfl
  | cons x _ ih => simp only [sumI, ih]
  | swap x y l => simp only [sumI]; omega
  | trans _ _ h1 h2 => exact h1.trans h2
/-- the sum of the lines whose accounts are such ones -/
def sumQ (q : Int → Bool) : List Ln → Int
  | [] => 0
  | x :: r => (if q x.acc then x.amt else 0) + sumQ q r
theorem sumQ_app (q : Int → Bool) : ∀ (a b : List Ln), sumQ q (a ++ b) = sumQ q a + sumQ q b
  | [], b => by simp [sumQ]
  | x :: r, b => by simp only [List.cons_append, sumQ, sumQ_app q r b]; omega
theorem sum_zero {f : Int → Int} : ∀ {ks : List Int}, (∀ k ∈ ks, f k = 0) → sumI (ks.map f) = 0
  | [], _ => rfl
  | k :: r, h => by
    rw [List.map_cons]
    simp only [sumI]
    rw [h k (List.mem_cons_self ..), sum_zero (ks := r) (fun j hj => h j (List.mem_cons_of_mem _ hj))]
    rfl
theorem sum_add (f g : Int → Int) : ∀ (ks : List Int), sumI (ks.map (fun k => f k + g k)) = sumI (ks.map f) + sumI (ks.map g)
  | [] => rfl
  | k :: r => by simp only [List.map_cons, sumI, sum_add f g r]; omega
theorem sum_single (q : Int → Bool) (a m : Int) : ∀ {ks : List Int}, ks.Nodup → a ∈ ks → sumI (ks.map (fun k => if q k then (if a = k then m else 0) else 0)) = if q a then m else 0
  | [], _, h => by cases h
  | k :: r, hn, h => by
    rw [List.nodup_cons] at hn
    simp only [List.map_cons, sumI]
    by_cases hk : a = k
    · subst hk
      have h0 : sumI (r.map (fun k => if q k then (if a = k then m else 0) else 0)) = 0 := sum_zero (fun j hj => by
        have : ¬ a = j := fun e => hn.1 (by rw [e]; exact hj)
        rw [if_neg this]
        split <;> rfl)
      rw [h0]
      simp
    · have hr : a ∈ r := by
        rcases List.mem_cons.1 h with h | h
        · exact absurd h hk
        · exact h
      rw [sum_single q a m hn.2 hr, if_neg hk]
      split <;> simp
theorem sum_keys (q : Int → Bool) {ks : List Int} (hn : ks.Nodup) : ∀ (ls : List Ln), (∀ x ∈ ls, x.acc ∈ ks) → sumI (ks.map (fun k => if q k then sumK k ls else 0)) = sumQ q ls
  | [], _ => sum_zero (fun k _ => by simp [sumK])
  | x :: r, h => by
    have ih := sum_keys q hn r (fun y hy => h y (List.mem_cons_of_mem _ hy))
    have h1 := sum_single q x.acc x.amt hn (h x (List.mem_cons_self ..))
    have e : (fun k => if q k then sumK k (x :: r) else 0) = (fun k => (if q k then (if x.acc = k then x.amt else 0) else 0) + (if q k then sumK k r else 0)) := by
      funext k
      simp only [sumK]
      split <;> simp
    rw [e, sum_add, h1, ih]
    rfl
theorem accS_keys : ∀ (ls : List Ln) (s : List (Int × Int)) (k : Int), (k ∈ s.map (·.1) ∨ ∃ x ∈ ls, x.acc = k) → k ∈ (accS s ls).map (·.1)
  | [], s, k, h => by
    rcases h with h | ⟨x, hx, _⟩
    · exact h
    · cases hx
  | x :: r, s, k, h => by
    refine accS_keys r (sAdd s x.acc x.amt) k ?_
    have hk : ∀ j, (j ∈ s.map (·.1) ∨ j = x.acc) → j ∈ (sAdd s x.acc x.amt).map (·.1) := by
      intro j hj
      unfold sAdd
      rw [ins_keys]
      split
      · rename_i hin
        rcases hj with hj | rfl
        · exact hj
        · exact hin
      · rw [List.mem_append, List.mem_singleton]
        exact hj
    rcases h with h | ⟨y, hy, rfl⟩
    · exact .inl (hk k (.inl h))
    · rcases List.mem_cons.1 hy with rfl | hy
      · exact .inl (hk _ (.inr rfl))
      · exact .inr ⟨y, hy, rfl⟩
theorem tell_sum (q : Int → Bool) (s : List (Int × Int)) : ∀ (ks : List Int), sumI (((ks.flatMap (tellK s)).filter (fun x => q x.1)).map (·.2)) = sumI (ks.map (fun k => if q k then at0 s k else 0))
  | [] => rfl
  | k :: r => by
    rw [List.flatMap_cons, List.filter_append, List.map_append, sumI_app, tell_sum q s r]
    simp only [List.map_cons, sumI]
    have : sumI (((tellK s k).filter (fun x => q x.1)).map (·.2)) = if q k then at0 s k else 0 := by
      unfold tellK
      by_cases h : at0 s k = 0
      · simp [h, sumI]
      · have : (at0 s k == 0) = false := by simpa using h
        rw [this]
        cases hq : q k <;> simp [hq, sumI]
    rw [this]
/-- the sum of the balances of some accounts is that of their lines -/
theorem accR_sum {J : List Jn} (hV : ValJ J) (e f t : Int) (q : Int → Bool) : sumI (((accR J e f t).filter (fun x => q x.1)).map (·.2)) = sumQ q (linesOf J e f t) := by
  have hlen := linesOf_len hV.good (by have := hV.len; omega) e f t
  unfold accR tellS
  rw [tell_sum]
  have hp : (srt ((accS [] (linesOf J e f t)).map (·.1))).Perm ((accS [] (linesOf J e f t)).map (·.1)) := List.mergeSort_perm _ _
  rw [sumI_perm (hp.map _)]
  have hat : (fun k => if q k then at0 (accS [] (linesOf J e f t)) k else 0) = (fun k => if q k then sumK k (linesOf J e f t) else 0) := by
    funext k
    rw [accS_at _ _ rfl (by omega) (linesOf_amt hV e f t)]
  rw [hat]
  exact sum_keys q (accS_nodup _ _ (by simp)) _ (fun x hx => accS_keys _ _ _ (.inr ⟨x, hx, rfl⟩))
theorem neg_sum : ∀ (l : List (Int × Int)), sumI ((l.map negB).map (·.2)) = -sumI (l.map (·.2))
  | [] => rfl
  | x :: r => by
    simp only [List.map_cons, sumI, neg_sum r, negB]
    omega
theorem addM_ok {l : List Int} (h : (addM l).2 = 0) : (addM l).1 = sumI l := by
  unfold addM at h ⊢
  split
  · rename_i hc
    rw [if_pos hc] at h
    unfold fitS at h ⊢
    split
    · rfl
    · rename_i h2
      rw [if_neg h2] at h
      cases h
  · rename_i hc
    rw [if_neg hc] at h
    cases h
def kB (r : List Ac) (ks : List Int) (k : Int) : Bool := pickB r ks (k, 0)
theorem pickB_k (r : List Ac) (ks : List Int) : pickB r ks = fun x => kB r ks x.1 := rfl
/-- what is left, as a sum over lines -/
theorem net_sum {r : List Ac} {J : List Jn} (hV : ValJ J) {e f t : Int} (h : (incM r J e f t).2 = 0) : (incM r J e f t).1.2.2 = -sumQ (kB r [4]) (linesOf J e f t) - sumQ (kB r [5]) (linesOf J e f t) := by
  unfold incM at h ⊢
  rcases balT_cases J e f t with hb | hb | ⟨_, _, hb⟩
  · rw [hb] at h
    exact absurd h (by simp)
  · rw [hb] at h
    exact absurd h (by simp)
  · rw [hb] at h ⊢
    have e0 : ((0 : Int) != 0) = false := by decide
    simp only [e0, Bool.false_eq_true, if_false] at h ⊢
    unfold incR at h ⊢
    simp only at h ⊢
    obtain ⟨a, ea, hA⟩ : ∃ a ea, addM ((incI r (accR J e f t)).map (·.2)) = (a, ea) := ⟨_, _, rfl⟩
    obtain ⟨b, eb, hB⟩ : ∃ a ea, addM ((incO r (accR J e f t)).map (·.2)) = (a, ea) := ⟨_, _, rfl⟩
    rw [hA, hB] at h ⊢
    simp only at h ⊢
    obtain ⟨n, en, hN⟩ : ∃ n0 en0, addM [a, -b] = (n0, en0) := ⟨_, _, rfl⟩
    rw [hN] at h ⊢
    simp only at h ⊢
    by_cases h1 : ea = 0
    · by_cases h2 : eb = 0
      · by_cases h3 : en = 0
        · subst h1; subst h2; subst h3
          simp only [e0, Bool.false_eq_true, if_false]
          have a1 := addM_ok (l := (incI r (accR J e f t)).map (·.2)) (by rw [hA])
          have b1 := addM_ok (l := (incO r (accR J e f t)).map (·.2)) (by rw [hB])
          have n1 := addM_ok (l := [a, -b]) (by rw [hN])
          rw [hA] at a1
          rw [hB] at b1
          rw [hN] at n1
          unfold incI at a1
          unfold incO at b1
          rw [neg_sum, pickB_k, accR_sum hV] at a1
          rw [pickB_k, accR_sum hV] at b1
          simp only [sumI] at a1 b1 n1
          omega
        · have e3 : (en != 0) = true := by simpa using h3
          subst h1; subst h2
          simp only [e0, e3, Bool.false_eq_true, if_false, if_true] at h
          exact absurd h h3
      · have e2 : (eb != 0) = true := by simpa using h2
        subst h1
        simp only [e0, e2, Bool.false_eq_true, if_false, if_true] at h
        exact absurd h h2
    · have e1 : (ea != 0) = true := by simpa using h1
      simp only [e1, if_true] at h
      exact absurd h h1
theorem lines_split (q : Int → Bool) (e f m t : Int) (h1 : f ≤ m) (h2 : m ≤ t + 1) : ∀ (J : List Jn), sumQ q (linesOf J e f t) = sumQ q (linesOf J e f (m - 1)) + sumQ q (linesOf J e m t)
  | [] => rfl
  | j :: r => by
    have ih := lines_split q e f m t h1 h2 r
    have hc : ∀ f t, linesOf (j :: r) e f t = (if cnt e f t j then j.lines else []) ++ linesOf r e f t := by
      intro f t
      unfold linesOf
      rw [List.filter_cons]
      split <;> simp
    rw [hc, hc, hc, sumQ_app, sumQ_app, sumQ_app, ih]
    have hx : cnt e f t j = (cnt e f (m - 1) j || cnt e m t j) ∧ ¬ (cnt e f (m - 1) j = true ∧ cnt e m t j = true) := by
      unfold cnt
      cases j.void
      · cases j.en == e
        · simp
        · simp only [Bool.not_false, Bool.true_and]
          constructor
          · rw [Bool.eq_iff_iff]
            simp
            omega
          · simp
            omega
      · simp
    obtain ⟨hx1, hx2⟩ := hx
    cases c1 : cnt e f (m - 1) j <;> cases c2 : cnt e m t j
    · rw [c1, c2] at hx1; rw [hx1]; simp [sumQ]
    · rw [c1, c2] at hx1; rw [hx1]; simp [sumQ]; omega
    · rw [c1, c2] at hx1; rw [hx1]; simp [sumQ]; omega
    · exact absurd ⟨c1, c2⟩ hx2
end Go.Proofs.YtgggpaacagbmcaaGreat


/- Plain: the document's balances are the program's; so is what is left. -/
set_option linter.unusedVariables false
set_option linter.unusedSimpArgs false
namespace Go.Proofs.YtgggpaacagbmcaaGreat
open Go.RowKit Go.Maps Go.Deep

theorem look_memY {s : List (Int × Int)} (h : (s.map (·.1)).Nodup) {k v : Int} (hm : (k, v) ∈ s) : at0 s k = v := by
  induction s with
  | nil => simp at hm
  | cons x r ih =>
    rw [List.map_cons, List.nodup_cons] at h
    rcases List.mem_cons.1 hm with rfl | hm
    · simp [at0, look]
    · have hne : ¬ x.1 = k := fun e => h.1 (by rw [e]; exact List.mem_map.2 ⟨(k, v), hm, rfl⟩)
      have := ih h.2 hm
      unfold at0 look at this ⊢
      rw [List.find?_cons_of_neg (by simpa using hne)]
      exact this
/-- how many of the numbers have a sum -/
def putR : List (Int × Int) → Int → Int → List (Int × Int)
  | [], k, m => [(k, m)]
  | x :: r, k, m => if x.1 == k then (x.1, x.2 + m) :: r else if decide (k < x.1) then (k, m) :: x :: r else x :: putR r k m
theorem pF_done (k m : Int) : ∀ (l o : List (Int × Int)), l.foldl (pStep k m) (o, true) = (o ++ l, true)
  | [], o => by simp
  | x :: r, o => by
    rw [List.foldl_cons]
    have : pStep k m (o, true) x = (o ++ [x], true) := rfl
    rw [this, pF_done k m r]
    simp
def pFin (k m : Int) (s : List (Int × Int) × Bool) : List (Int × Int) := if s.2 then s.1 else s.1 ++ [(k, m)]
theorem pF_open (k m : Int) : ∀ (l o : List (Int × Int)), pFin k m (l.foldl (pStep k m) (o, false)) = o ++ putR l k m
  | [], o => by simp [pFin, putR]
  | x :: r, o => by
    rw [List.foldl_cons]
    cases h1 : x.1 == k
    · cases h2 : decide (k < x.1)
      · have e1 : pStep k m (o, false) x = (o ++ [x], false) := by unfold pStep; simp only [Bool.false_eq_true, if_false, h1, h2]
        have e2 : putR (x :: r) k m = x :: putR r k m := by rw [putR]; simp only [h1, h2, Bool.false_eq_true, if_false]
        rw [e1, e2, pF_open k m r]
        simp
      · have e1 : pStep k m (o, false) x = (o ++ [(k, m)] ++ [x], true) := by unfold pStep; simp only [Bool.false_eq_true, if_false, h1, h2, if_true]
        have e2 : putR (x :: r) k m = (k, m) :: x :: r := by rw [putR]; simp only [h1, h2, Bool.false_eq_true, if_false, if_true]
        rw [e1, e2, pF_done]
        simp [pFin]
    · have e1 : pStep k m (o, false) x = (o ++ [(x.1, x.2 + m)], true) := by unfold pStep; simp only [Bool.false_eq_true, if_false, h1, if_true]
      have e2 : putR (x :: r) k m = (x.1, x.2 + m) :: r := by rw [putR]; simp only [h1, if_true]
      rw [e1, e2, pF_done]
      simp [pFin]
theorem putL_is (l : List (Int × Int)) (k m : Int) : putL l k m = putR l k m := by
  have := pF_open k m l []
  rw [List.nil_append] at this
  exact this
theorem at0_cons (x : Int × Int) (r : List (Int × Int)) (j : Int) : at0 (x :: r) j = if x.1 = j then x.2 else at0 r j := by
  unfold at0 look
  rw [List.find?_cons]
  by_cases h : x.1 = j
  · simp [h]
  · simp [h]
theorem at0_free {l : List (Int × Int)} {j : Int} (h : ∀ x ∈ l, x.1 ≠ j) : at0 l j = 0 := at0_none (by
  rw [List.mem_map]
  rintro ⟨x, hx, e⟩
  exact h x hx e)
theorem putR_keys (k m : Int) : ∀ (l : List (Int × Int)), ∀ y ∈ putR l k m, y.1 = k ∨ ∃ z ∈ l, z.1 = y.1
  | [], y, h => by simp [putR] at h; exact .inl (by rw [h])
  | x :: r, y, h => by
    unfold putR at h
    split at h
    · rename_i hk
      rcases List.mem_cons.1 h with rfl | h
      · exact .inl (by simpa using hk)
      · exact .inr ⟨y, List.mem_cons_of_mem _ h, rfl⟩
    · split at h
      · rcases List.mem_cons.1 h with rfl | h
        · exact .inl rfl
        · exact .inr ⟨y, h, rfl⟩
      · rcases List.mem_cons.1 h with rfl | h
        · exact .inr ⟨y, List.mem_cons_self .., rfl⟩
        · rcases putR_keys k m r y h with h | ⟨z, hz, e⟩
          · exact .inl h
          · exact .inr ⟨z, List.mem_cons_of_mem _ hz, e⟩
theorem putR_rise (k m : Int) : ∀ {l : List (Int × Int)}, l.Pairwise (fun a b => a.1 < b.1) → (putR l k m).Pairwise (fun a b => a.1 < b.1)
  | [], _ => by simp [putR]
  | x :: r, h => by
    rw [List.pairwise_cons] at h
    unfold putR
    split
    · rw [List.pairwise_cons]
      exact ⟨h.1, h.2⟩
    · rename_i hk
      split
      · rename_i hlt
        have hlt' : k < x.1 := by simpa using hlt
        rw [List.pairwise_cons, List.pairwise_cons]
        refine ⟨fun y hy => ?_, h.1, h.2⟩
        rcases List.mem_cons.1 hy with rfl | hy
        · exact hlt'
        · have := h.1 y hy; show k < y.1; omega
      · rename_i hlt
        have hlt' : ¬ k < x.1 := by simpa using hlt
        have hk' : x.1 ≠ k := by simpa using hk
        rw [List.pairwise_cons]
        refine ⟨fun y hy => ?_, putR_rise k m h.2⟩
        rcases putR_keys k m r y hy with e | ⟨z, hz, e⟩
        · rw [e]; omega
        · rw [← e]; exact h.1 z hz
theorem putR_at (k m j : Int) : ∀ {l : List (Int × Int)}, l.Pairwise (fun a b => a.1 < b.1) → at0 (putR l k m) j = if j = k then at0 l k + m else at0 l j
  | [], _ => by
    unfold putR
    rw [at0_cons]
    by_cases h : j = k
    · subst h; simp [at0, look]
    · have : ¬ k = j := fun e => h e.symm
      simp [h, this, at0, look]
  | x :: r, h => by
    rw [List.pairwise_cons] at h
    unfold putR
    split
    · rename_i hk
      have hk' : x.1 = k := by simpa using hk
      rw [at0_cons, at0_cons, at0_cons]
      by_cases hj : j = k
      · subst hj; simp [hk']
      · have : ¬ x.1 = j := fun e => hj (by omega)
        simp [hj, this]
    · rename_i hk
      have hk' : x.1 ≠ k := by simpa using hk
      split
      · rename_i hlt
        have hlt' : k < x.1 := by simpa using hlt
        have hz : at0 (x :: r) k = 0 := at0_free (fun y hy => by
          rcases List.mem_cons.1 hy with rfl | hy
          · exact hk'
          · have := h.1 y hy; omega)
        rw [at0_cons, hz]
        by_cases hj : j = k
        · subst hj; simp
        · have : ¬ k = j := fun e => hj e.symm
          simp [hj, this]
      · rw [at0_cons, putR_at k m j h.2, at0_cons, at0_cons]
        by_cases hj : j = k
        · subst hj
          simp [hk']
        · simp only [hj, if_false]
theorem putR_len (k m : Int) : ∀ (l : List (Int × Int)), (putR l k m).length ≤ l.length + 1
  | [] => by simp [putR]
  | x :: r => by
    unfold putR
    split
    · simp
    · split
      · simp
      · have := putR_len k m r
        simp only [List.length_cons]
        omega
/-- the sums of lines, account by account, as the document makes them -/
def refS (ls : List Ln) : List (Int × Int) := ls.foldl (fun o x => putL o x.acc x.amt) []
theorem refS_succ (ls : List Ln) (n : Nat) (hn : n < ls.length) : refS (ls.take (n + 1)) = putL (refS (ls.take n)) ls[n].acc ls[n].amt := by
  unfold refS
  rw [List.take_succ_eq_append_getElem hn, List.foldl_append]
  rfl
theorem refS_all : ∀ (n : Nat) (ls : List Ln), ls.length = n → (refS ls).Pairwise (fun a b => a.1 < b.1) ∧ (∀ k, at0 (refS ls) k = sumK k ls) ∧ (refS ls).length ≤ n := by
  intro n
  induction n with
  | zero =>
    intro ls hl
    have := List.length_eq_zero_iff.1 hl
    subst this
    exact ⟨List.Pairwise.nil, fun k => rfl, Nat.le_refl _⟩
  | succ n ih =>
    intro ls hl
    obtain ⟨r, x, rfl⟩ : ∃ r x, ls = r ++ [x] := ⟨ls.dropLast, ls.getLast (by intro e; rw [e] at hl; simp at hl), (List.dropLast_concat_getLast _).symm⟩
    obtain ⟨h1, h2, h3⟩ := ih r (by simpa using hl)
    have e : refS (r ++ [x]) = putR (refS r) x.acc x.amt := by
      unfold refS
      rw [List.foldl_append]
      exact putL_is _ _ _
    rw [e]
    refine ⟨putR_rise _ _ h1, fun k => ?_, ?_⟩
    · rw [putR_at _ _ _ h1, sumK_app, h2, h2]
      by_cases hk : k = x.acc
      · subst hk
        simp [sumK]
      · have : ¬ x.acc = k := fun e => hk e.symm
        simp [hk, sumK, this]
    · have := putR_len x.acc x.amt (refS r)
      omega
theorem rise_nodup {l : List (Int × Int)} (h : l.Pairwise (fun a b => a.1 < b.1)) : (l.map (·.1)).Nodup := by
  rw [List.Nodup, List.pairwise_map]
  exact h.imp (fun h e => by omega)
theorem refS_mem {ls : List Ln} {x : Int × Int} (h : x ∈ refS ls) : sumK x.1 ls = x.2 := by
  obtain ⟨h1, h2, _⟩ := refS_all _ ls rfl
  rw [← h2]
  exact look_memY (rise_nodup h1) h
theorem refS_of {ls : List Ln} {x : Int × Int} (h : sumK x.1 ls = x.2) (h0 : x.2 ≠ 0) : x ∈ refS ls := by
  obtain ⟨h1, h2, _⟩ := refS_all _ ls rfl
  have ha := h2 x.1
  rw [h] at ha
  unfold at0 look at ha
  cases hf : (refS ls).find? (fun y => y.1 = x.1) with
  | none =>
    rw [hf] at ha
    exact absurd ha.symm h0
  | some y =>
    rw [hf] at ha
    have hy := List.mem_of_find?_eq_some hf
    have hk : y.1 = x.1 := by simpa using List.find?_some hf
    have : y = x := Prod.ext hk ha
    rw [← this]
    exact hy
theorem refS_bd {ls : List Ln} (hb : ∀ x ∈ ls, -1000000000000000 ≤ x.amt ∧ x.amt ≤ 1000000000000000) (hl : ls.length ≤ 8000) : ∀ x ∈ refS ls, -8000000000000000000 ≤ x.2 ∧ x.2 ≤ 8000000000000000000 := by
  intro x hx
  have := sumK_bd x.1 ls hb
  rw [refS_mem hx] at this
  omega
/-- the document's balances are the program's -/
theorem ref_bal {J : List Jn} (hV : ValJ J) (e f t : Int) : plainT (refS (linesOf J e f t)) = if (accR J e f t).all (fun x => fitsB x.2) then (accR J e f t, true) else ([], false) := by
  have hall : (refS (linesOf J e f t)).all (fun x => fitsB x.2) = (accR J e f t).all (fun x => fitsB x.2) := by
    rw [Bool.eq_iff_iff, List.all_eq_true, List.all_eq_true]
    constructor
    · intro h x hx
      obtain ⟨h1, h2⟩ := (accR_mem hV).1 hx
      exact h x (refS_of h1 h2)
    · intro h x hx
      by_cases h0 : x.2 = 0
      · rw [h0]; rfl
      · exact h x ((accR_mem hV).2 ⟨refS_mem hx, h0⟩)
  unfold plainT
  rw [hall]
  split
  · congr 1
    refine rise_ext ((refS_all _ _ rfl).1.filter _) (accR_rise J e f t) (fun x => ?_)
    rw [List.mem_filter, accR_mem hV]
    constructor
    · rintro ⟨h1, h2⟩
      exact ⟨refS_mem h1, by simpa [nzB] using h2⟩
    · rintro ⟨h1, h2⟩
      exact ⟨refS_of h1 h2, by simpa [nzB] using h2⟩
  · rfl
def netA (r : List Ac) (l : List (Int × Int)) : Int := sumI ((pickS r l 4 true).map (·.2))
def netB (r : List Ac) (l : List (Int × Int)) : Int := sumI ((pickS r l 5 false).map (·.2))
def netF (r : List Ac) (l : List (Int × Int)) : Bool := (fitsB (netA r l) && fitsB (netB r l)) && fitsB (netA r l - netB r l)
theorem kindP_is (r : List Ac) (kd : Int) (h : kd ≠ 0) : kindP r kd = pickB r [kd] := by
  funext x
  unfold kindP pickB kindA
  cases findA r x.1 with
  | none => simp; omega
  | some a =>
    show (a.kind == kd) = [kd].contains a.kind
    rw [Bool.eq_iff_iff]
    simp
theorem net_is {r : List Ac} {l : List (Int × Int)} (hf : ∀ x ∈ l, fitsB x.2 = true) : (netF r l = true → (incR r l).2 = 0 ∧ (incR r l).1.2.2 = netA r l - netB r l) ∧ (netF r l = false → (incR r l).2 ≠ 0) := by
  have hI : incI r l = pickS r l 4 true := by
    unfold incI pickS
    rw [kindP_is r 4 (by decide)]
    rfl
  have hO : incO r l = pickS r l 5 false := by
    unfold incO pickS
    rw [kindP_is r 5 (by decide)]
    have : turnB false = id := by funext x; rfl
    rw [this, List.map_id]
  have fI : ((incI r l).map (·.2)).all fitsB = true := by
    rw [List.all_eq_true]
    intro y hy
    obtain ⟨x, hx, rfl⟩ := List.mem_map.1 hy
    unfold incI at hx
    obtain ⟨z, hz, rfl⟩ := List.mem_map.1 hx
    have := hf z (List.mem_filter.1 hz).1
    unfold fitsB negB at *
    simp at *
    omega
  have fO : ((incO r l).map (·.2)).all fitsB = true := by
    rw [List.all_eq_true]
    intro y hy
    obtain ⟨x, hx, rfl⟩ := List.mem_map.1 hy
    exact hf x (List.mem_filter.1 hx).1
  have eA : addM ((incI r l).map (·.2)) = fitS (netA r l) := by unfold addM; rw [fI, hI]; rfl
  have eB : addM ((incO r l).map (·.2)) = fitS (netB r l) := by unfold addM; rw [fO, hO]; rfl
  unfold incR
  simp only [eA, eB]
  unfold netF
  generalize netA r l = a
  generalize netB r l = b
  unfold fitS
  cases ha : fitsB a
  · simp
  · cases hb : fitsB b
    · simp
    · have hnb : fitsB (-b) = true := by unfold fitsB at *; simp at *; omega
      have eN : addM [a, -b] = fitS (a - b) := by
        unfold addM
        simp only [List.all_cons, List.all_nil, ha, hnb, Bool.and_true, if_true, sumI]
        rw [show a + (-b + 0) = a - b from by omega]
      simp only [if_true, eN]
      unfold fitS
      cases hc : fitsB (a - b)
      · simp
      · simp
end Go.Proofs.YtgggpaacagbmcaaGreat
