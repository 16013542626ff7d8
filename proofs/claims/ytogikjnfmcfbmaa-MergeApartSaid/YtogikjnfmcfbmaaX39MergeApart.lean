/- law 16: are three books small (Light)? -/
import Derived.Test.YtogikjnfmcfbmaaX14MergeApart
import Derived.Test.YtogikjnfmcfbmaaX33MergeApart
import Derived.Test.YtogikjnfmcfbmaaX34MergeApart
import Derived.Test.YtogikjnfmcfbmaaX23MergeApart
set_option linter.unusedVariables false
set_option linter.unusedSimpArgs false
namespace Go.Proofs.Ytogikjnfmcfbmaa
open Go.RowKit Go.Maps

set_option maxHeartbeats 8000000 in
set_option maxRecDepth 100000 in
theorem light_any (l0 l1 l2 : List Jn) (n1 n2 : Nat) (a0 a1 a2 e1 e2 : Option Addr) (c0 c1 c2 d1 d2 : Nat) (w : World) {F0 F1 F2 : Nat → Prop} (h0 : Sl tJn w F0 a0 l0) (h1 : Sl tJn w F1 a1 l1) (h2 : Sl tJn w F2 a2 l2) (k0 : l0.length ≤ maxLen) (k1 : l1.length ≤ maxLen) (k2 : l2.length ≤ maxLen) (m1 : n1 ≤ maxLen) (m2 : n2 ≤ maxLen) :
    Calls Try.prog 7 #[.agg #[.slice a0 l0.length c0, .slice a1 l1.length c1, .slice a2 l2.length c2, .slice e1 n1 d1, .slice e2 n2 d2]] w fun e w' => (∃ b, e = .returned (.bool b)) ∧ Below w.heap.size w w' := by
  have HB := Lib.hid ((Below.refl w.heap.size w).alloc (Nat.le_refl _) (.cells #[.slice a0 l0.length c0, .slice a1 l1.length c1, .slice a2 l2.length c2, .slice e1 n1 d1, .slice e2 n2 d2] 25))
  have HZ := Lib.hid (blk_new w (.cells #[.slice a0 l0.length c0, .slice a1 l1.length c1, .slice a2 l2.length c2, .slice e1 n1 d1, .slice e2 n2 d2] 25))
  have H0 := Lib.hid (Sl.keep (fun k hk _ => HB.out.block k hk) h0)
  have H1 := Lib.hid (Sl.keep (fun k hk _ => HB.out.block k hk) h1)
  have H2 := Lib.hid (Sl.keep (fun k hk _ => HB.out.block k hk) h2)
  have m1' : n1 ≤ 9223372036854775807 := by unfold maxLen at m1; omega
  have m2' : n2 ≤ 9223372036854775807 := by unfold maxLen at m2; omega
  clear h0 h1 h2
  go_enter Try.func7, Try.ntmps7
  go_wp2_with fail
  refine (few_any l0 a0 c0 30 _ H0.out k0 (by omega)).mono ?_
  rintro en w2 ⟨b, rfl, _, hb⟩
  have HB2 := Lib.hid (belows_then HB.out (by simp) hb)
  have HZ2 := Lib.hid (blk_below HZ.out hb)
  have H12 := Lib.hid (Sl.keep (fun k hk _ => hb.block k hk) H1.out)
  have H22 := Lib.hid (Sl.keep (fun k hk _ => hb.block k hk) H2.out)
  have hz2 := blk_cells HZ2.out
  have hzl2 := blk_lt HZ2.out
  clear hb
  cases b
  · go_wp2_with fail
    go_ret
    first | exact ⟨⟨_, rfl⟩, HB2.out⟩ | exact ⟨.inl rfl, HB2.out⟩ | exact ⟨.inr rfl, HB2.out⟩
  · go_wp2_with fail
    refine (few_any l1 a1 c1 20 _ H12.out k1 (by omega)).mono ?_
    rintro en w3 ⟨b, rfl, _, hb⟩
    have HB3 := Lib.hid (belows_then HB2.out HB2.out.size hb)
    have HZ3 := Lib.hid (blk_below HZ2.out hb)
    have H23 := Lib.hid (Sl.keep (fun k hk _ => hb.block k hk) H22.out)
    have hz3 := blk_cells HZ3.out
    have hzl3 := blk_lt HZ3.out
    clear hb hz2 hzl2
    cases b
    · go_wp2_with fail
      go_ret
      first | exact ⟨⟨_, rfl⟩, HB3.out⟩ | exact ⟨.inl rfl, HB3.out⟩ | exact ⟨.inr rfl, HB3.out⟩
    · go_wp2_with fail
      refine (few_any l2 a2 c2 20 _ H23.out k2 (by omega)).mono ?_
      rintro en w4 ⟨b, rfl, _, hb⟩
      have HB4 := Lib.hid (belows_then HB3.out HB3.out.size hb)
      have HZ4 := Lib.hid (blk_below HZ3.out hb)
      have hz4 := blk_cells HZ4.out
      have hzl4 := blk_lt HZ4.out
      clear hb hz3 hzl3
      cases b
      · go_wp2_with fail
        go_ret
        first | exact ⟨⟨_, rfl⟩, HB4.out⟩ | exact ⟨.inl rfl, HB4.out⟩ | exact ⟨.inr rfl, HB4.out⟩
      · by_cases q : n1 ≤ 20
        · go_wp2_with fail
          go_ret
          first | exact ⟨⟨_, rfl⟩, HB4.out⟩ | exact ⟨.inl rfl, HB4.out⟩ | exact ⟨.inr rfl, HB4.out⟩
        · go_wp2_with fail
          go_ret
          first | exact ⟨⟨_, rfl⟩, HB4.out⟩ | exact ⟨.inl rfl, HB4.out⟩ | exact ⟨.inr rfl, HB4.out⟩
end Go.Proofs.Ytogikjnfmcfbmaa


/- merge, plain: where each number is what one of the books has, the table is that book, and nothing is in conflict. -/
set_option linter.unusedVariables false
set_option linter.unusedSimpArgs false
namespace Go.Proofs.Ytogikjnfmcfbmaa
open Go.RowKit Go.Maps

theorem sameJ_refl (a : Jn) : sameJ a a = true := by
  unfold sameJ
  simp
theorem getJ_id {l : List Jn} {k : Int} (h : (getJ l k).id ≠ 0) : getJ l k ∈ l ∧ (getJ l k).id = k := by
  unfold getJ at h ⊢
  cases hf : l.find? (fun j => j.id == k) with
  | none => rw [hf] at h; exact absurd rfl h
  | some x => exact ⟨List.mem_of_find?_eq_some hf, by simpa using List.find?_some hf⟩
theorem getJ_self {z : List Jn} (hz : ValJ z) {x : Jn} (hx : x ∈ z) : getJ z x.id = x := by
  obtain ⟨i, hi, rfl⟩ := List.mem_iff_getElem.1 hx
  exact getJ_at hz.incJ hi
theorem rise_extJ {A B : List Jn} (hA : A.Pairwise (fun x y => x.id < y.id)) (hB : B.Pairwise (fun x y => x.id < y.id)) (h : ∀ x, x ∈ A ↔ x ∈ B) : A = B := by
  have nd : ∀ {L : List Jn}, L.Pairwise (fun x y => x.id < y.id) → L.Nodup := fun h => h.imp (fun {x y} hxy e => by rw [e] at hxy; omega)
  have hp : A.Perm B := (List.perm_ext_iff_of_nodup (nd hA) (nd hB)).2 h
  exact List.Perm.eq_of_pairwise (le := fun x y => x.id < y.id) (fun a b _ _ h1 h2 => by omega) hA hB hp
theorem tab_of {l0 l1 l2 z : List Jn} (hz : ValJ z) (hsub : ∀ x ∈ z, x ∈ (l0 ++ l1) ++ l2) (h : ∀ k, oneAt l0 l1 l2 k = (getJ z k, 0)) : tabJ l0 l1 l2 = z ∧ tabC l0 l1 l2 = [] := by
  have hbad : ∀ ks, badL l0 l1 l2 ks = [] := by
    intro ks
    unfold badL
    rw [List.filterMap_eq_nil_iff]
    intro k _
    rw [h k]
    rfl
  have hcame : ∀ x, x ∈ cameL l0 l1 l2 (idsJ l0 l1 l2) ↔ x.1 ∈ idsJ l0 l1 l2 ∧ x.2 = getJ z x.1 ∧ x.2.id ≠ 0 := by
    intro x
    unfold cameL
    rw [List.mem_filterMap]
    constructor
    · rintro ⟨k, hk, he⟩
      rw [h k] at he
      split at he
      · rename_i hc
        injection he with he
        subst he
        simp at hc
        exact ⟨hk, rfl, hc⟩
      · cases he
    · rintro ⟨h1, h2, h3⟩
      refine ⟨x.1, h1, ?_⟩
      rw [h x.1, if_pos (by rw [← h2]; simpa using h3), ← h2]
  constructor
  · unfold tabJ
    refine rise_extJ ?_ hz.inc (fun x => ?_)
    · rw [List.pairwise_map]
      have hk := (idsJ_rise l0 l1 l2).sublist (cameL_keys l0 l1 l2 (idsJ l0 l1 l2))
      rw [List.pairwise_map] at hk
      refine List.Pairwise.imp_of_mem (fun {a b} ha hb hab => ?_) hk
      obtain ⟨_, a2, a3⟩ := (hcame a).1 ha
      obtain ⟨_, b2, b3⟩ := (hcame b).1 hb
      rw [a2] at a3 ⊢
      rw [b2] at b3 ⊢
      rw [(getJ_id a3).2, (getJ_id b3).2]
      exact hab
    · rw [List.mem_map]
      constructor
      · rintro ⟨y, hy, rfl⟩
        obtain ⟨_, h2, h3⟩ := (hcame y).1 hy
        rw [h2] at h3 ⊢
        exact (getJ_id h3).1
      · intro hx
        refine ⟨(x.id, x), (hcame _).2 ⟨idsJ_mem.2 ⟨x, hsub x hx, rfl⟩, (getJ_self hz hx).symm, ?_⟩, rfl⟩
        have := hz.ordJ.ok x hx
        show x.id ≠ 0
        omega
  · unfold tabC
    rw [hbad]
    rfl
/-- both sides alike -/
theorem tab_like {x y : List Jn} (hx : ValJ x) (hy : ValJ y) : (tabJ x y y = y ∧ tabC x y y = []) ∧ (tabJ x x x = x ∧ tabC x x x = []) ∧ (tabJ y x y = x ∧ tabC y x y = []) := by
  refine ⟨tab_of hy (fun u hu => by simp [hu]) (fun k => ?_), tab_of hx (fun u hu => by simp [hu]) (fun k => ?_), tab_of hx (fun u hu => by simp [hu]) (fun k => ?_)⟩
  · unfold oneAt oneJ
    rw [sameJ_refl]
    rfl
  · unfold oneAt oneJ
    rw [sameJ_refl]
    rfl
  · unfold oneAt oneJ
    rw [sameJ_refl (getJ y k), Bool.or_true]
    rfl
end Go.Proofs.Ytogikjnfmcfbmaa


/- The document's Same. -/
set_option linter.unusedVariables false
set_option linter.unusedSimpArgs false
namespace Go.Proofs.Ytogikjnfmcfbmaa
open Go.RowKit Go.Maps

theorem same_casesN {a b : Jn} {r : Bool} (h : sameJ a b = r) :
    (r = false ∧ ((a.id != b.id) = true ∨ (a.id != b.id) = false ∧ ((a.en != b.en) = true ∨ (a.en != b.en) = false ∧ ((a.pe != b.pe) = true ∨ (a.pe != b.pe) = false ∧ ((!a.ref.toList == b.ref.toList) = true ∨ (!a.ref.toList == b.ref.toList) = false ∧ (!a.void == b.void) = true))))) ∨
    ((a.id != b.id) = false ∧ (a.en != b.en) = false ∧ (a.pe != b.pe) = false ∧ (!a.ref.toList == b.ref.toList) = false ∧ (!a.void == b.void) = false ∧ decide (a.lines = b.lines) = r) := by
  have hc := same_cases h
  simp only [bne, Bool.not_eq_true', Bool.not_eq_false']
  exact hc

set_option maxHeartbeats 8000000 in
set_option maxRecDepth 100000 in
theorem rsame_any (a b : Jn) (aa ba : Option Addr) (ac bc : Nat) (w : World) {F G : Nat → Prop} (hs : Sl tLn w F aa a.lines) (ht : Sl tLn w G ba b.lines) (hl : a.lines.length ≤ maxLen) (hm : b.lines.length ≤ maxLen) {r : Bool} (hr : sameJ a b = r) :
    Calls Try.prog 11 #[jnv a aa ac, jnv b ba bc] w fun e w' => e = .returned (.bool r) ∧ Below w.heap.size w w' := by
  have hcs := same_casesN hr
  clear hr
  obtain ⟨i1, i2, i3, i4, l, i6⟩ := a
  obtain ⟨x1, x2, x3, x4, m, x6⟩ := b
  simp only at hs ht hl hm hcs
  have hbb : Below w.heap.size w ((w.alloc (.cells #[.int .i64 i1, .int .i64 i2, .int .i64 i3, .string i4, .slice aa l.length ac, .bool i6] 31)).alloc (.cells #[.int .i64 x1, .int .i64 x2, .int .i64 x3, .string x4, .slice ba m.length bc, .bool x6] 31)) := ((Below.refl w.heap.size w).alloc (Nat.le_refl _) (.cells #[.int .i64 i1, .int .i64 i2, .int .i64 i3, .string i4, .slice aa l.length ac, .bool i6] 31)).alloc (by simp) (.cells #[.int .i64 x1, .int .i64 x2, .int .i64 x3, .string x4, .slice ba m.length bc, .bool x6] 31)
  have HB := Lib.hid hbb
  have HS := Lib.hid hs
  have HT := Lib.hid ht
  have hl' : l.length ≤ 9223372036854775807 := by unfold maxLen at hl; omega
  have hm' : m.length ≤ 9223372036854775807 := by unfold maxLen at hm; omega
  have HZA : Hid ((((w.alloc (.cells #[.int .i64 i1, .int .i64 i2, .int .i64 i3, .string i4, .slice aa l.length ac, .bool i6] 31)).alloc (.cells #[.int .i64 x1, .int .i64 x2, .int .i64 x3, .string x4, .slice ba m.length bc, .bool x6] 31))).heap[w.heap.size]? = some (.cells #[.int .i64 i1, .int .i64 i2, .int .i64 i3, .string i4, .slice aa l.length ac, .bool i6] 31 (0, 0))) := Lib.hid (blk_alloc (blk_new w (.cells #[.int .i64 i1, .int .i64 i2, .int .i64 i3, .string i4, .slice aa l.length ac, .bool i6] 31)) (.cells #[.int .i64 x1, .int .i64 x2, .int .i64 x3, .string x4, .slice ba m.length bc, .bool x6] 31))
  have HZB : Hid ((((w.alloc (.cells #[.int .i64 i1, .int .i64 i2, .int .i64 i3, .string i4, .slice aa l.length ac, .bool i6] 31)).alloc (.cells #[.int .i64 x1, .int .i64 x2, .int .i64 x3, .string x4, .slice ba m.length bc, .bool x6] 31))).heap[w.heap.size + 1]? = some (.cells #[.int .i64 x1, .int .i64 x2, .int .i64 x3, .string x4, .slice ba m.length bc, .bool x6] 31 (0, 0))) := Lib.hid (by have := blk_new (w.alloc (.cells #[.int .i64 i1, .int .i64 i2, .int .i64 i3, .string i4, .slice aa l.length ac, .bool i6] 31)) (.cells #[.int .i64 x1, .int .i64 x2, .int .i64 x3, .string x4, .slice ba m.length bc, .bool x6] 31); simpa using this)
  clear hs ht hl hm hbb
  rcases hcs with ⟨rfl, h1 | ⟨h1, h2 | ⟨h2, h3 | ⟨h3, h4 | ⟨h4, h5⟩⟩⟩⟩⟩ | ⟨h1, h2, h3, h4, h5, h6⟩
  iterate 5
    go_enter Try.func11, Try.ntmps11
    go_wp2_with fail
    go_ret
    exact ⟨rfl, HB.out⟩
  by_cases hlen : l.length = m.length
  · have hq : ((l.length : Int) != (m.length : Int)) = false := by simp [hlen]
    have HLEN := Lib.hid hlen
    have H6 := Lib.hid h6
    clear hlen h6
    go_enter Try.func11, Try.ntmps11
    go_wp2_with fail
    go_loopw [5] (fun vi wr => ∃ n : Nat, n ≤ l.length ∧ vi = .int .i64 n ∧ Hid (l.take n = m.take n) ∧ wr.heap[w.heap.size]? = some (.cells #[.int .i64 i1, .int .i64 i2, .int .i64 i3, .string i4, .slice aa l.length ac, .bool i6] 31 (0, 0)) ∧ wr.heap[w.heap.size + 1]? = some (.cells #[.int .i64 x1, .int .i64 x2, .int .i64 x3, .string x4, .slice ba m.length bc, .bool x6] 31 (0, 0)) ∧ Below w.heap.size w wr) (fun vi _ => l.length - (intOf vi).toNat)
    case atStart => exact ⟨0, Nat.zero_le _, rfl, Lib.hid rfl, HZA.out, HZB.out, HB.out⟩
    case round =>
      obtain ⟨n, hn, rfl, htk, hza, hzb, hb⟩ := hrel
      have HA := Lib.hid hza
      have HBB := Lib.hid hzb
      have HBR := Lib.hid hb
      have hz1 := blk_cells hza
      have hz2 := blk_cells hzb
      have hzl1 := blk_lt hza
      have hzl2 := blk_lt hzb
      clear hza hzb hb
      by_cases hlt : n < l.length
      · have hlt2 : n < m.length := by have := HLEN.out; omega
        obtain ⟨ad, rfl, _, hadl, hc0, hc1, hc2, _⟩ := ln_at (Sl.keep (fun k hk _ => HBR.out.block k hk) HS.out) n hlt
        obtain ⟨bd, rfl, _, hbdl, hd0, hd1, hd2, _⟩ := ln_at (Sl.keep (fun k hk _ => HBR.out.block k hk) HT.out) n hlt2
        have HEQ : Hid (l[n] = m[n] → l.take (n + 1) = m.take (n + 1)) := Lib.hid (fun h => take_eq_succM htk.out hlt hlt2 h)
        have HNE : Hid (l[n] ≠ m[n] → r = false) := Lib.hid (fun h => by rw [← H6.out]; simpa using ne_atM hlt hlt2 h)
        generalize l[n] = x at *
        generalize m[n] = y at *
        obtain ⟨y1, y2, y3⟩ := x
        obtain ⟨z1, z2, z3⟩ := y
        simp only at hc0 hc1 hc2 hd0 hd1 hd2
        have hcs : ((y1 == z1) = true ∧ (y2 == z2) = true ∧ (y3 == z3) = true ∧ y1 = z1 ∧ y2 = z2 ∧ y3 = z3) ∨ ((y1 == z1) = false ∧ ¬ (y1 = z1 ∧ y2 = z2 ∧ y3 = z3) ∨ (y1 == z1) = true ∧ (y2 == z2) = false ∧ ¬ (y1 = z1 ∧ y2 = z2 ∧ y3 = z3) ∨ (y1 == z1) = true ∧ (y2 == z2) = true ∧ (y3 == z3) = false ∧ ¬ (y1 = z1 ∧ y2 = z2 ∧ y3 = z3)) := by
          by_cases h1 : y1 = z1 <;> by_cases h2 : y2 = z2 <;> by_cases h3 : y3 = z3 <;> simp [h1, h2, h3]
        rcases hcs with ⟨k1, k2, k3, e1, e2, e3⟩ | ⟨k1, hne⟩ | ⟨k1, k2, hne⟩ | ⟨k1, k2, k3, hne⟩
        · have HN := Lib.hid (HEQ.out (by rw [e1, e2, e3]))
          clear e1 e2 e3
          go_wp2_with fail
          go_quiet (fail)
          go_wp2_with fail
          go_roundw
          case rel => exact ⟨n + 1, by omega, by go_num, HN, blk_drew HA.out _, blk_drew HBB.out _, below_drewN HBR.out _⟩
          case measure => simp [intOf]; omega
        all_goals
          have HF := Lib.hid (HNE.out (by simpa using hne))
          clear hne
          go_wp2_with fail
          go_quiet (fail)
          go_wp2_with fail
          go_ret
          rw [HF.out]
          exact ⟨rfl, below_drewN HBR.out _⟩
      · have HF : Hid (r = true) := Lib.hid (by
          rw [← H6.out]
          have h := htk.out
          have hnn : n = l.length := by omega
          rw [hnn, List.take_length, HLEN.out, List.take_length] at h
          simpa using h)
        go_wp2_with fail
        go_ret
        rw [HF.out]
        exact ⟨rfl, HBR.out⟩
  · have hq : ((l.length : Int) != (m.length : Int)) = true := by simp; omega
    have HF : Hid (r = false) := Lib.hid (by rw [← h6]; simp; intro h; exact hlen (by rw [h]))
    clear hlen h6
    go_enter Try.func11, Try.ntmps11
    go_wp2_with fail
    go_ret
    rw [HF.out]
    exact ⟨rfl, HB.out⟩
end Go.Proofs.Ytogikjnfmcfbmaa
