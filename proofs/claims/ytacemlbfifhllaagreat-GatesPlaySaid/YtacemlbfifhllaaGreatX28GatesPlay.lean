/- variorumbook: putBalances. -/
import Derived.Test.YtacemlbfifhllaaGreatX27GatesPlay
set_option linter.unusedVariables false
set_option linter.unusedSimpArgs false
namespace Go.Proofs.YtacemlbfifhllaaGreat
open Go.RowKit Go.Maps Go.Deep

theorem flat_set2 : ∀ (css : List (List Value)) (k : Nat) (a b : Value), (∀ c ∈ css, c.length = 2) → k < css.length → (css.set k [a, b]).flatten = (css.flatten.set (k * 2) a).set (k * 2 + 1) b
  | [], k, a, b, _, h => by simp at h
  | c :: r, 0, a, b, hc, _ => by
    have := hc c (List.mem_cons_self ..)
    match c, this with
    | [u, v], _ => simp
  | c :: r, k + 1, a, b, hc, h => by
    have := hc c (List.mem_cons_self ..)
    match c, this with
    | [u, v], _ =>
      have ih := flat_set2 r k a b (fun c hc' => hc c (List.mem_cons_of_mem _ hc')) (by simpa using h)
      have e : (k + 1) * 2 = k * 2 + 2 := by omega
      rw [e]
      simp [ih]
theorem OwnL.put2 {w : World} {base g cap : Nat} {xs : List (Int × Int)} (h : OwnL tBal w base (.slice (some ⟨g, 0, none⟩) xs.length cap) xs) (k : Nat) (hk : k < xs.length) (x : Int × Int) (h1 : I64 x.1) (h2 : I64 x.2) :
    OwnL tBal ((w.setCell ⟨g, k * 2, none⟩ (.int .i64 x.1)).setCell ⟨g, k * 2 + 1, none⟩ (.int .i64 x.2)) base (.slice (some ⟨g, 0, none⟩) xs.length cap) (xs.set k x) := by
  obtain ⟨css, ⟨hl, hr⟩, hc2, hc3, hc4⟩ := h
  rcases hr with ⟨hn, _⟩ | ⟨g', cap', cur, he, hbb, hc, hn, hm, hcs, ht⟩
  · cases hn
  · injection he with e1 e2 e3
    injection e1 with e1
    injection e1 with e1
    subst e1
    subst e3
    have hlen : (xs.set k x).length = xs.length := List.length_set
    refine ⟨css.set k (pairV x), ?_, by simp [hc2], ?_, ?_⟩
    · rw [hlen]
      have hfs : (css.set k (pairV x)).flatten = (css.flatten.set (k * 2) (.int .i64 x.1)).set (k * 2 + 1) (.int .i64 x.2) := flat_set2 css k _ _ hc3 (by omega)
      rw [hfs]
      refine ⟨by simpa using hl, .inr ⟨g, cap, _, rfl, hbb, blk_set (blk_set hc (k * 2) (.int .i64 x.1)) (k * 2 + 1) (.int .i64 x.2), hn, hm, by simpa using hcs, ?_⟩⟩
      simp only [Array.toList_setIfInBounds, List.take_set, ht]
    · intro c hc'
      rcases List.mem_or_eq_of_mem_set hc' with h | h
      · exact hc3 c h
      · rw [h]; rfl
    · intro i c y hi hy
      by_cases hik : k = i
      · subst hik
        rw [List.getElem?_set_self (by omega)] at hi hy
        injection hi with hi
        injection hy with hy
        subst hi
        subst hy
        exact bal_mk _ h1 h2
      · rw [List.getElem?_set_ne hik] at hi hy
        obtain ⟨rfl, k1, k2⟩ := bal_inv (hc4 i c y hi hy)
        exact bal_mk y k1 k2

theorem add0 (g i : Nat) : (⟨g, 0, none⟩ : Addr).add i = ⟨g, i, none⟩ := by
  unfold Addr.add
  split <;> simp_all
theorem marks_at (i n k : Nat) (h : k < (marks i 0 n).length) : (marks i 0 n)[k] = (-1000 * (i : Int) - (k : Int) - 1, 0) := by
  have h2 : (marks i 0 n)[k]? = some (-1000 * (i : Int) - (((0 : Nat) : Int) + (k : Int)) - 1, 0) := by
    have hkn : k < n := by rwa [marks_len] at h
    unfold marks
    simp [hkn]
  rw [List.getElem?_eq_getElem h] at h2
  injection h2 with h2
  rw [h2]
  congr 2
  omega
theorem but_two (wr : World) (g i j : Nat) (u v : Value) : But (fun j => j = g) wr ((wr.setCell ⟨g, i, none⟩ u).setCell ⟨g, j, none⟩ v).drew :=
  But.drew (But.setCell (F := fun j => j = g) (p := ⟨g, j, none⟩) (But.setCell (F := fun j => j = g) (p := ⟨g, i, none⟩) (But.refl _ wr) (.inl rfl) u) (.inl rfl) v)
theorem set_self {β : Type} {l : List β} {i : Nat} {x : β} (h : l[i]? = some x) : l.set i x = l := by
  apply List.ext_getElem?
  intro j
  by_cases hj : i = j
  · subst hj
    rw [List.getElem?_set_self (List.getElem?_eq_some_iff.1 h).1, h]
  · rw [List.getElem?_set_ne hj]
theorem own_row {w : World} {base : Nat} {va : Option Addr} {m vc : Nat} {xs : List (Int × Int)} (h : OwnL tBal w base (.slice va m vc) xs) (hp : 0 < xs.length) : ∃ g, va = some ⟨g, 0, none⟩ ∧ ∃ cur, w.heap[g]? = some (.cells cur 131 (0, 0)) := by
  obtain ⟨css, ⟨hl, hr⟩, _⟩ := h
  rcases hr with ⟨_, h0⟩ | ⟨g, cap, cur, he, hbb, hc, _⟩
  · omega
  · injection he with e1
    exact ⟨g, e1, cur, hc⟩

/-- the blocks in which the lists vs lie -/
def InV (vs : List Value) (k : Nat) : Prop := ∃ v ∈ vs, v.ownBlock = some k
theorem set_marks (i : Nat) (l : List (Int × Int)) (k : Nat) (hk : k < l.length) : (marks i 0 k ++ l.drop k).set k (-1000 * (i : Int) - (k : Int) - 1, 0) = marks i 0 (k + 1) ++ l.drop (k + 1) := by
  have h1 := marks_len i 0 k
  rw [List.set_append_right _ _ (by omega), h1, Nat.sub_self, marks_succ, List.append_assoc]
  congr 1
  rw [List.drop_eq_getElem_cons hk, List.set_cons_zero]
  show _ = ((-1000 * (i : Int) - (((0 : Nat) : Int) + (k : Int)) - 1, (0 : Int)) : Int × Int) :: List.drop (k + 1) l
  congr 2
  omega

theorem put_step {wr : World} {base : Nat} {vs : List Value} {C : List (List (Int × Int))} {n g k vc m : Nat} {A B : List (Int × Int)} {x : Int} (h : Lots tBal wr base vs (C.set n A)) (hn : n < C.length) (hv : vs[n]? = some (.slice (some ⟨g, 0, none⟩) m vc)) (hA : A.length = m) (hk : k < m) (hx : I64 x) (hB : A.set k (x, 0) = B) :
    Lots tBal ((wr.setCell ⟨g, k * 2, none⟩ (.int .i64 x)).setCell ⟨g, k * 2 + 1, none⟩ (.int .i64 0)).drew base vs (C.set n B) := by
  subst hA
  have ho := h.own n _ A hv (List.getElem?_set_self hn)
  have ho2 := OwnL.put2 ho k hk (x, 0) hx (by decide : I64 0)
  have ho3 : OwnL tBal ((wr.setCell ⟨g, k * 2, none⟩ (.int .i64 x)).setCell ⟨g, k * 2 + 1, none⟩ (.int .i64 0)).drew base (.slice (some ⟨g, 0, none⟩) A.length vc) B := by
    rw [hB] at ho2
    exact ho2.keep (Nat.le_refl _) (fun _ _ => rfl)
  have hset := h.set bal_Free hv ho3 ⟨rfl, rfl, rfl, by simp [World.drew], fun j hj hne => by
    have hjg : j ≠ g := fun e => hne (by rw [e]; rfl)
    exact (Below.heap_setCell _ ⟨g, k * 2 + 1, none⟩ _ j hjg).trans (Below.heap_setCell _ ⟨g, k * 2, none⟩ _ j hjg)⟩ (.inl rfl)
  rw [set_self hv, List.set_set] at hset
  exact hset
theorem put_next {C : List (List (Int × Int))} {n : Nat} {l : List (Int × Int)} (h : ∀ (i : Nat) (l : List (Int × Int)), C[i]? = some l → (i < n → l = marks i 0 l.length) ∧ l.length ≤ 100000) (hn : n < C.length) (hl : l.length ≤ 100000) :
    ∀ (i : Nat) (c : List (Int × Int)), (C.set n (marks n 0 l.length))[i]? = some c → (i < n + 1 → c = marks i 0 c.length) ∧ c.length ≤ 100000 := by
  intro i c hc
  by_cases hi : n = i
  · subst hi
    rw [List.getElem?_set_self hn] at hc
    injection hc with hc
    subst hc
    rw [marks_len]
    exact ⟨fun _ => rfl, hl⟩
  · rw [List.getElem?_set_ne hi] at hc
    have := h i c hc
    exact ⟨fun h2 => this.1 (by omega), this.2⟩

set_option maxHeartbeats 16000000 in
set_option maxRecDepth 100000 in
theorem putBal_any {w : World} {b base : Nat} {cs : Array Value} {a6 : Option Addr} {c6 : Nat} {vs : List Value} {L : List (List (Int × Int))} (hb : w.heap[b]? = some (.cells cs 41 (0, 0)))
    (h6 : cs[6]? = some (.slice a6 vs.length c6)) (ho : OwnL tBalV w base (.slice a6 vs.length c6) vs) (hl : Lots tBal w base vs L) (hbb : ¬ InV vs b) (hap : ∀ v ∈ vs, ApartV (.slice a6 vs.length c6) v) (hn : vs.length ≤ 1000)
    (hL : ∀ (i : Nat) (l : List (Int × Int)), L[i]? = some l → l.length ≤ 100000) :
    Calls Tryz.prog 40 #[.pointer (some ⟨b, 0, none⟩)] w fun e w' => e = .returned (.tuple #[]) ∧ But (InV vs) w w' ∧ ∃ C, Lots tBal w' base vs C ∧ ∀ (i : Nat) (l : List (Int × Int)), C[i]? = some l → l = marks i 0 l.length ∧ l.length ≤ 100000 := by
  have HSW : Hid (∀ W, But (InV vs) w W → Sl tBalV W (fun _ => True) a6 vs) := Lib.hid (fun W hW => (ho.but balV_Free hW (fun k hk hf => by
    obtain ⟨v, hv, hvk⟩ := hf
    rcases hap v hv with h | h
    · rw [h] at hk; cases hk
    · exact h (by rw [hk, hvk]))).sl)
  have HLL := Lib.hid hl
  have HL := Lib.hid hL
  have hbl := blk_lt hb
  have HC6 : Hid (∀ W, But (InV vs) w W → W.cell? ⟨b, 6, none⟩ = some (.slice a6 vs.length c6)) := Lib.hid (fun W hW => by rw [blk_cells ((hW.block b hbl hbb).trans hb)]; exact h6)
  have HAB : Hid (∀ ad, a6 = some ad → ¬ InV vs ad.block) := Lib.hid (fun ad ha ⟨v, hv, hvk⟩ => by
    subst ha
    rcases hap v hv with h | h
    · cases h
    · exact h hvk.symm)
  have HLT : Hid (∀ k, InV vs k → k < w.heap.size) := Lib.hid (fun k ⟨v, hv, hk⟩ => (hl.lt hv k hk).2)
  clear ho hl hL hb h6 hap
  go_enter Tryz.func40, Tryz.ntmps40
  go_wp2_with fail
  go_loopw [2] (fun vi wr => ∃ (n : Nat) (C : List (List (Int × Int))), n ≤ vs.length ∧ vi = .int .i64 n ∧ Lots tBal wr base vs C ∧ But (InV vs) w wr ∧ Hid (∀ (i : Nat) (l : List (Int × Int)), C[i]? = some l → (i < n → l = marks i 0 l.length) ∧ l.length ≤ 100000)) (fun vi _ => vs.length - (Go.RowKit.intOf vi).toNat)
  case atStart => exact ⟨0, L, Nat.zero_le _, rfl, HLL.out, But.refl _ _, Lib.hid (fun i l h => ⟨fun h0 => by omega, HL.out i l h⟩)⟩
  case round =>
    obtain ⟨n, C, hnn, rfl, hlo, hbt, HCM⟩ := hrel
    have HLO := Lib.hid hlo
    have HB := Lib.hid hbt
    have hbl' : b < wr.heap.size := Nat.lt_of_lt_of_le hbl hbt.size
    have hz6 := HC6.out wr hbt
    clear hbt hlo
    by_cases hlt : n < vs.length
    · have hlt2 : n < C.length := by have := HLO.out.len; omega
      obtain ⟨l, hl⟩ : ∃ l, C[n]? = some l := ⟨_, List.getElem?_eq_getElem hlt2⟩
      have hll := (HCM.out n l hl).2
      obtain ⟨v, hv⟩ : ∃ v, vs[n]? = some v := ⟨_, List.getElem?_eq_getElem hlt⟩
      have hvn : vs[n] = v := by rw [List.getElem?_eq_getElem hlt] at hv; injection hv
      have hown := HLO.out.own n v l hv hl
      obtain ⟨ad, rfl, hadl, hc0⟩ := val_at (HSW.out wr HB.out) n hlt
      have HMK : Hid (Calls Tryz.prog 85 #[.int .i64 (n : Int), .int .i64 0, .int .i64 (l.length : Int)] wr fun e w' => ∃ v, e = .returned v ∧ OwnL tBal w' wr.heap.size v (marks n 0 l.length) ∧ Below wr.heap.size wr w') := Lib.hid (markBal_any n 0 l.length (by omega) (by omega) (by omega) wr)
      have HL0 := Lib.hid hl
      have HV0 := Lib.hid hv
      have hml := marks_len n 0 l.length
      rw [hvn] at hc0
      obtain ⟨va, vc, hve, hvc, hvm, _⟩ := hown.slice
      have HVE := Lib.hid hve
      rw [hve] at hc0
      clear hl hv hvn hown hve hvc hvm
      go_wp2_with fail
      refine HMK.out.mono ?_
      rintro en w2 ⟨v2, rfl, ho2, hb2⟩
      obtain ⟨ma, mc, rfl, _, _, hms⟩ := ho2.slice
      have HMF : Hid (∀ k, (Value.slice ma (marks n 0 l.length).length mc).ownBlock = some k → ¬ InV vs k) := Lib.hid (fun k hk hf => by
        have h1 := ho2.lt k hk
        have h2 := HLT.out k hf
        have := HB.out.size
        omega)
      have HMS : Hid (∀ W, But (InV vs) w2 W → Sl tBal W (fun _ => True) ma (marks n 0 l.length)) := Lib.hid (fun W hW => (ho2.but bal_Free hW HMF.out).sl)
      have HB2 : Hid (But (InV vs) w w2) := Lib.hid (HB.out.call hb2)
      have HLO2 := Lib.hid (HLO.out.below hb2)
      rw [hml]
      clear ho2 hb2 hms HMK hc0 hml
      go_wp2_with fail
      go_loopw [4] (fun vk wk => ∃ k : Nat, k ≤ l.length ∧ vk = .int .i64 k ∧ Lots tBal wk base vs (C.set n (marks n 0 k ++ l.drop k)) ∧ But (InV vs) w2 wk) (fun vk _ => l.length - (Go.RowKit.intOf vk).toNat)
      case atStart => exact ⟨0, Nat.zero_le _, rfl, by
        have e : C.set n (marks n 0 0 ++ l.drop 0) = C := set_self (by simpa [marks] using HL0.out)
        rw [e]
        exact HLO2.out, But.refl _ _⟩
      case round =>
        obtain ⟨k, hkk, rfl, hlo3, hbt3⟩ := hrel
        have HLO3 := Lib.hid hlo3
        have HB3 := Lib.hid hbt3
        have hxl : (marks n 0 k ++ l.drop k).length = l.length := by rw [List.length_append, marks_len, List.length_drop]; omega
        clear hlo3 hbt3
        by_cases hk : k < l.length
        · have hown := HLO3.out.own n v (marks n 0 k ++ l.drop k) HV0.out (List.getElem?_set_self hlt2)
          have hin : ∀ g, v.ownBlock = some g → InV vs g := fun g hg => ⟨v, List.mem_of_getElem? HV0.out, hg⟩
          have HVV := Lib.hid HVE.out
          rw [HVE.out] at hown hin
          obtain ⟨g, rfl, cur, hcur⟩ := own_row hown (by omega)
          have hgi := hin g rfl
          obtain ⟨md, hmd, _, hmdl, hm0, hm1, _, _⟩ := bal_at (HMS.out wr HB3.out) k (by rw [marks_len]; exact hk)
          subst hmd
          obtain ⟨xd, hxd, _, _, hx0, hx1, _, _⟩ := bal_at hown.sl k (by omega)
          injection hxd with hxd
          subst hxd
          rw [add0] at hx0 hx1
          have HX : Hid (I64 (-1000 * (n : Int) - (k : Int) - 1)) := Lib.hid (i64_ofB (by omega) (by omega))
          rw [marks_at] at hm0 hm1
          have hz6' := HC6.out wr (HB2.out.trans HB3.out)
          have hc0 := (val_at (HSW.out wr (HB2.out.trans HB3.out)) n hlt)
          obtain ⟨ad', had', hadl', hc0⟩ := hc0
          injection had' with had'
          subst had'
          rw [show vs[n] = v from by have := HV0.out; rw [List.getElem?_eq_getElem hlt] at this; injection this, HVV.out] at hc0
          have HGI := Lib.hid hgi
          have hgl := blk_lt hcur
          have hbg : b ≠ g := fun e => hbb (e ▸ hgi)
          have hag : ad.block ≠ g := fun e => HAB.out ad rfl (e ▸ hgi)
          have hmg : md.block ≠ g := fun e => HMF.out md.block rfl (e ▸ hgi)
          have hbw : b < wr.heap.size := Nat.lt_of_lt_of_le hbl (HB2.out.trans HB3.out).size
          have HCE : Hid (∀ W, But (fun j => j = g) wr W → W.cell? ⟨b, 6, none⟩ = some (.slice (some ad) vs.length c6) ∧ W.cell? (ad.add n) = some (.slice (some ⟨g, 0, none⟩) l.length vc) ∧ W.cell? (md.add (k * 2)) = some (.int .i64 (-1000 * (n : Int) - (k : Int) - 1)) ∧ W.cell? ⟨(md.add (k * 2)).block, (md.add (k * 2)).off + 1, none⟩ = some (.int .i64 0)) := Lib.hid (fun W hW =>
            ⟨(World.cell?_of_block (hW.block b hbw hbg)).trans hz6', (World.cell?_of_block (by rw [add_block]; exact hW.block _ hadl' hag)).trans hc0, (World.cell?_of_block (by rw [add_block]; exact hW.block _ hmdl hmg)).trans hm0, (World.cell?_of_block (by show W.heap[(md.add (k * 2)).block]? = _; rw [add_block]; exact hW.block _ hmdl hmg)).trans hm1⟩)
          have HBD : Hid (But (fun j => j = g) wr wr.drew) := Lib.hid ((But.refl _ _).drew)
          have HST := Lib.hid (HCE.out ((wr.setCell ⟨g, k * 2, none⟩ (.int .i64 (-1000 * (n : Int) - (k : Int) - 1))).setCell ⟨g, k * 2 + 1, none⟩ (.int .i64 0)).drew (but_two wr g _ _ _ _))
          have hfz := blk_frz hcur
          have HOWN := Lib.hid hown
          have hkl : (k : Int) < (l.length : Int) := by omega
          clear hown hin hgi hcur hmdl hm0 hm1 hz6' hadl' hc0 hbg hag hmg
          go_wp2_with fail
          go_region_held3 (fun w' => w'.cell? ⟨b, 6, none⟩ = some (.slice (some ad) vs.length c6) ∧ w'.cell? (ad.add n) = some (.slice (some ⟨g, 0, none⟩) l.length vc) ∧ w'.cell? (md.add (k * 2)) = some (.int .i64 (-1000 * (n : Int) - (k : Int) - 1)) ∧ w'.cell? ⟨(md.add (k * 2)).block, (md.add (k * 2)).off + 1, none⟩ = some (.int .i64 0)) (first | with_reducible exact HCE.out _ HBD.out | with_reducible exact HST.out) (fail)
          have HNX : Hid (Lots tBal ((wr.setCell ⟨g, k * 2, none⟩ (.int .i64 (-1000 * (n : Int) - (k : Int) - 1))).setCell ⟨g, k * 2 + 1, none⟩ (.int .i64 0)).drew base vs (C.set n (marks n 0 (k + 1) ++ l.drop (k + 1)))) := Lib.hid (put_step HLO3.out hlt2 (by rw [HV0.out, HVV.out]) hxl hk HX.out (set_marks n l k hk))
          have HBX : Hid (But (InV vs) w2 ((wr.setCell ⟨g, k * 2, none⟩ (.int .i64 (-1000 * (n : Int) - (k : Int) - 1))).setCell ⟨g, k * 2 + 1, none⟩ (.int .i64 0)).drew) := Lib.hid (But.drew (But.setCell (But.setCell HB3.out (.inl HGI.out) _) (.inl HGI.out) _))
          go_wp2_with fail
          go_roundw
          case rel => exact ⟨k + 1, by omega, by go_num, HNX.out, HBX.out⟩
          case measure => simp [Go.RowKit.intOf]; omega
        · obtain rfl : k = l.length := by omega
          go_wp2_with fail
          have HLF : Hid (Lots tBal wr base vs (C.set n (marks n 0 l.length))) := Lib.hid (by have := HLO3.out; rwa [List.drop_length, List.append_nil] at this)
          go_wp2_with fail
          go_roundw
          case rel => exact ⟨n + 1, _, by omega, by go_num, HLF.out, HB2.out.trans HB3.out, Lib.hid (put_next HCM.out hlt2 hll)⟩
          case measure => simp [Go.RowKit.intOf]; omega
    · obtain rfl : n = vs.length := by omega
      go_wp2_with fail
      go_end0
      refine ⟨rfl, HB.out, C, HLO.out, fun i l hl => ⟨(HCM.out i l hl).1 ?_, (HCM.out i l hl).2⟩⟩
      have := (List.getElem?_eq_some_iff.1 hl).1
      have := HLO.out.len
      omega
end Go.Proofs.YtacemlbfifhllaaGreat
