/- law 16: are three books small (Light)? -/
import Derived.Test.YtogikjnfmcfbmaaX15MergeLike
import Derived.Test.YtogikjnfmcfbmaaX35MergeLike
import Derived.Test.YtogikjnfmcfbmaaX36MergeLike
set_option linter.unusedVariables false
set_option linter.unusedSimpArgs false
namespace Go.Proofs.Ytogikjnfmcfbmaa
open Go.RowKit Go.Maps

set_option maxHeartbeats 8000000 in
set_option maxRecDepth 100000 in
theorem light_any (l0 l1 l2 : List Jn) (n1 n2 : Nat) (a0 a1 a2 e1 e2 : Option Addr) (c0 c1 c2 d1 d2 : Nat) (w : World) {F0 F1 F2 : Nat → Prop} (h0 : Sl tJn w F0 a0 l0) (h1 : Sl tJn w F1 a1 l1) (h2 : Sl tJn w F2 a2 l2) (k0 : l0.length ≤ maxLen) (k1 : l1.length ≤ maxLen) (k2 : l2.length ≤ maxLen) (m1 : n1 ≤ maxLen) (m2 : n2 ≤ maxLen) :
    Calls Try.prog 7 #[.agg #[.slice a0 l0.length c0, .slice a1 l1.length c1, .slice a2 l2.length c2, .slice e1 n1 d1, .slice e2 n2 d2]] w fun e w' => (∃ b, e = .returned (.bool b)) ∧ Below w.heap.size w w' := by
  have HB := Lib.hid ((Below.refl w.heap.size w).alloc (Nat.le_refl _) (.cells #[.slice a0 l0.length c0, .slice a1 l1.length c1, .slice a2 l2.length c2, .slice e1 n1 d1, .slice e2 n2 d2] 25))
  have HZ := Lib.hid (blk_new w (.cells #[.slice a0 l0.length c0, .slice a1 l1.length c1, .slice a2 l2.length c2, .slice e1 n1 d1, .slice e2 n2 d2] 25))
  have H0 := Lib.hid (Sl.keep (fun k hk _ => HB.out.block k hk) h0)
  have H1 := Lib.hid (Sl.keep (fun k hk _ => HB.out.block k hk) h1)
  have H2 := Lib.hid (Sl.keep (fun k hk _ => HB.out.block k hk) h2)
  have m1' : n1 ≤ 9223372036854775807 := by unfold maxLen at m1; omega
  have m2' : n2 ≤ 9223372036854775807 := by unfold maxLen at m2; omega
  clear h0 h1 h2
  go_enter Try.func7, Try.ntmps7
  go_wp2_with fail
  refine (few_any l0 a0 c0 30 _ H0.out k0 (by omega)).mono ?_
  rintro en w2 ⟨b, rfl, _, hb⟩
  have HB2 := Lib.hid (belows_then HB.out (by simp) hb)
  have HZ2 := Lib.hid (blk_below HZ.out hb)
  have H12 := Lib.hid (Sl.keep (fun k hk _ => hb.block k hk) H1.out)
  have H22 := Lib.hid (Sl.keep (fun k hk _ => hb.block k hk) H2.out)
  have hz2 := blk_cells HZ2.out
  have hzl2 := blk_lt HZ2.out
  clear hb
  cases b
  · go_wp2_with fail
    go_ret
    first | exact ⟨⟨_, rfl⟩, HB2.out⟩ | exact ⟨.inl rfl, HB2.out⟩ | exact ⟨.inr rfl, HB2.out⟩
  · go_wp2_with fail
    refine (few_any l1 a1 c1 20 _ H12.out k1 (by omega)).mono ?_
    rintro en w3 ⟨b, rfl, _, hb⟩
    have HB3 := Lib.hid (belows_then HB2.out HB2.out.size hb)
    have HZ3 := Lib.hid (blk_below HZ2.out hb)
    have H23 := Lib.hid (Sl.keep (fun k hk _ => hb.block k hk) H22.out)
    have hz3 := blk_cells HZ3.out
    have hzl3 := blk_lt HZ3.out
    clear hb hz2 hzl2
    cases b
    · go_wp2_with fail
      go_ret
      first | exact ⟨⟨_, rfl⟩, HB3.out⟩ | exact ⟨.inl rfl, HB3.out⟩ | exact ⟨.inr rfl, HB3.out⟩
    · go_wp2_with fail
      refine (few_any l2 a2 c2 20 _ H23.out k2 (by omega)).mono ?_
      rintro en w4 ⟨b, rfl, _, hb⟩
      have HB4 := Lib.hid (belows_then HB3.out HB3.out.size hb)
      have HZ4 := Lib.hid (blk_below HZ3.out hb)
      have hz4 := blk_cells HZ4.out
      have hzl4 := blk_lt HZ4.out
      clear hb hz3 hzl3
      cases b
      · go_wp2_with fail
        go_ret
        first | exact ⟨⟨_, rfl⟩, HB4.out⟩ | exact ⟨.inl rfl, HB4.out⟩ | exact ⟨.inr rfl, HB4.out⟩
      · by_cases q : n1 ≤ 20
        · go_wp2_with fail
          go_ret
          first | exact ⟨⟨_, rfl⟩, HB4.out⟩ | exact ⟨.inl rfl, HB4.out⟩ | exact ⟨.inr rfl, HB4.out⟩
        · go_wp2_with fail
          go_ret
          first | exact ⟨⟨_, rfl⟩, HB4.out⟩ | exact ⟨.inl rfl, HB4.out⟩ | exact ⟨.inr rfl, HB4.out⟩
end Go.Proofs.Ytogikjnfmcfbmaa


/- merge, plain: where each number is what one of the books has, the table is that book, and nothing is in conflict. -/
set_option linter.unusedVariables false
set_option linter.unusedSimpArgs false
namespace Go.Proofs.Ytogikjnfmcfbmaa
open Go.RowKit Go.Maps

theorem sameJ_refl (a : Jn) : sameJ a a = true := by
  unfold sameJ
  simp
theorem getJ_id {l : List Jn} {k : Int} (h : (getJ l k).id ≠ 0) : getJ l k ∈ l ∧ (getJ l k).id = k := by
  unfold getJ at h ⊢
  cases hf : l.find? (fun j => j.id == k) with
  | none => rw [hf] at h; exact absurd rfl h
  | some x => exact ⟨List.mem_of_find?_eq_some hf, by simpa using List.find?_some hf⟩
theorem getJ_self {z : List Jn} (hz : ValJ z) {x : Jn} (hx : x ∈ z) : getJ z x.id = x := by
  obtain ⟨i, hi, rfl⟩ := List.mem_iff_getElem.1 hx
  exact getJ_at hz.incJ hi
theorem rise_extJ {A B : List Jn} (hA : A.Pairwise (fun x y => x.id < y.id)) (hB : B.Pairwise (fun x y => x.id < y.id)) (h : ∀ x, x ∈ A ↔ x ∈ B) : A = B := by
  have nd : ∀ {L : List Jn}, L.Pairwise (fun x y => x.id < y.id) → L.Nodup := fun h => h.imp (fun {x y} hxy e => by rw [e] at hxy; omega)
  have hp : A.Perm B := (List.perm_ext_iff_of_nodup (nd hA) (nd hB)).2 h
  exact List.Perm.eq_of_pairwise (le := fun x y => x.id < y.id) (fun a b _ _ h1 h2 => by omega) hA hB hp
theorem tab_of {l0 l1 l2 z : List Jn} (hz : ValJ z) (hsub : ∀ x ∈ z, x ∈ (l0 ++ l1) ++ l2) (h : ∀ k, oneAt l0 l1 l2 k = (getJ z k, 0)) : tabJ l0 l1 l2 = z ∧ tabC l0 l1 l2 = [] := by
  have hbad : ∀ ks, badL l0 l1 l2 ks = [] := by
    intro ks
    unfold badL
    rw [List.filterMap_eq_nil_iff]
    intro k _
    rw [h k]
    rfl
  have hcame : ∀ x, x ∈ cameL l0 l1 l2 (idsJ l0 l1 l2) ↔ x.1 ∈ idsJ l0 l1 l2 ∧ x.2 = getJ z x.1 ∧ x.2.id ≠ 0 := by
    intro x
    unfold cameL
    rw [List.mem_filterMap]
    constructor
    · rintro ⟨k, hk, he⟩
      rw [h k] at he
      split at he
      · rename_i hc
        injection he with he
        subst he
        simp at hc
        exact ⟨hk, rfl, hc⟩
      · cases he
    · rintro ⟨h1, h2, h3⟩
      refine ⟨x.1, h1, ?_⟩
      rw [h x.1, if_pos (by rw [← h2]; simpa using h3), ← h2]
  constructor
  · unfold tabJ
    refine rise_extJ ?_ hz.inc (fun x => ?_)
    · rw [List.pairwise_map]
      have hk := (idsJ_rise l0 l1 l2).sublist (cameL_keys l0 l1 l2 (idsJ l0 l1 l2))
      rw [List.pairwise_map] at hk
      refine List.Pairwise.imp_of_mem (fun {a b} ha hb hab => ?_) hk
      obtain ⟨_, a2, a3⟩ := (hcame a).1 ha
      obtain ⟨_, b2, b3⟩ := (hcame b).1 hb
      rw [a2] at a3 ⊢
      rw [b2] at b3 ⊢
      rw [(getJ_id a3).2, (getJ_id b3).2]
      exact hab
    · rw [List.mem_map]
      constructor
      · rintro ⟨y, hy, rfl⟩
        obtain ⟨_, h2, h3⟩ := (hcame y).1 hy
        rw [h2] at h3 ⊢
        exact (getJ_id h3).1
      · intro hx
        refine ⟨(x.id, x), (hcame _).2 ⟨idsJ_mem.2 ⟨x, hsub x hx, rfl⟩, (getJ_self hz hx).symm, ?_⟩, rfl⟩
        have := hz.ordJ.ok x hx
        show x.id ≠ 0
        omega
  · unfold tabC
    rw [hbad]
    rfl
/-- both sides alike -/
theorem tab_like {x y : List Jn} (hx : ValJ x) (hy : ValJ y) : (tabJ x y y = y ∧ tabC x y y = []) ∧ (tabJ x x x = x ∧ tabC x x x = []) ∧ (tabJ y x y = x ∧ tabC y x y = []) := by
  refine ⟨tab_of hy (fun u hu => by simp [hu]) (fun k => ?_), tab_of hx (fun u hu => by simp [hu]) (fun k => ?_), tab_of hx (fun u hu => by simp [hu]) (fun k => ?_)⟩
  · unfold oneAt oneJ
    rw [sameJ_refl]
    rfl
  · unfold oneAt oneJ
    rw [sameJ_refl]
    rfl
  · unfold oneAt oneJ
    rw [sameJ_refl (getJ y k), Bool.or_true]
    rfl
end Go.Proofs.Ytogikjnfmcfbmaa
