/- variorumbook: putTrios. Printed by mktrios.py. -/
import Derived.Test.YtacemlbfifhllaaGreatX27GatesPlay
import Derived.Test.YtacemlbfifhllaaGreatX28GatesPlay
set_option linter.unusedVariables false
set_option linter.unusedSimpArgs false
namespace Go.Proofs.YtacemlbfifhllaaGreat
open Go.RowKit Go.Maps Go.Deep

theorem marksT_at (i n k : Nat) (h : k < (marksT i 0 n).length) : (marksT i 0 n)[k] = (-1000 * (i : Int) - (k : Int) - 1, 0, 0) := by
  have h2 : (marksT i 0 n)[k]? = some (-1000 * (i : Int) - (((0 : Nat) : Int) + (k : Int)) - 1, 0, 0) := by
    have hkn : k < n := by rwa [marksT_len] at h
    unfold marksT
    simp [hkn]
  rw [List.getElem?_eq_getElem h] at h2
  injection h2 with h2
  rw [h2]
  congr 2
  omega
theorem own_rowT {w : World} {base : Nat} {va : Option Addr} {m vc : Nat} {xs : List (Int × Int × Int)} (h : OwnL tTrio w base (.slice va m vc) xs) (hp : 0 < xs.length) : ∃ g, va = some ⟨g, 0, none⟩ ∧ ∃ cur, w.heap[g]? = some (.cells cur 54 (0, 0)) := by
  obtain ⟨css, ⟨hl, hr⟩, _⟩ := h
  rcases hr with ⟨_, h0⟩ | ⟨g, cap, cur, he, hbb, hc, _⟩
  · omega
  · injection he with e1
    exact ⟨g, e1, cur, hc⟩

theorem set_marksT (i : Nat) (l : List (Int × Int × Int)) (k : Nat) (hk : k < l.length) : (marksT i 0 k ++ l.drop k).set k (-1000 * (i : Int) - (k : Int) - 1, 0, 0) = marksT i 0 (k + 1) ++ l.drop (k + 1) := by
  have h1 := marksT_len i 0 k
  rw [List.set_append_right _ _ (by omega), h1, Nat.sub_self, marksT_succ, List.append_assoc]
  congr 1
  rw [List.drop_eq_getElem_cons hk, List.set_cons_zero]
  show _ = ((-1000 * (i : Int) - (((0 : Nat) : Int) + (k : Int)) - 1, (0 : Int), (0 : Int)) : Int × Int × Int) :: List.drop (k + 1) l
  congr 2
  omega

theorem flat_set3 : ∀ (css : List (List Value)) (k : Nat) (a b d : Value), (∀ c ∈ css, c.length = 3) → k < css.length → (css.set k [a, b, d]).flatten = ((css.flatten.set (k * 3) a).set (k * 3 + 1) b).set (k * 3 + 2) d
  | [], k, a, b, d, _, h => by simp at h
  | c :: r, 0, a, b, d, hc, _ => by
    have := hc c (List.mem_cons_self ..)
    match c, this with
    | [u, v, x], _ => simp
  | c :: r, k + 1, a, b, d, hc, h => by
    have := hc c (List.mem_cons_self ..)
    match c, this with
    | [u, v, x], _ =>
      have ih := flat_set3 r k a b d (fun c hc' => hc c (List.mem_cons_of_mem _ hc')) (by simpa using h)
      have e : (k + 1) * 3 = k * 3 + 3 := by omega
      rw [e]
      simp [ih]
abbrev set3 (w : World) (g k : Nat) (x y z : Int) : World := ((w.setCell ⟨g, k * 3, none⟩ (.int .i64 x)).setCell ⟨g, k * 3 + 1, none⟩ (.int .i64 y)).setCell ⟨g, k * 3 + 2, none⟩ (.int .i64 z)
theorem OwnL.put3 {w : World} {base g cap : Nat} {xs : List (Int × Int × Int)} (h : OwnL tTrio w base (.slice (some ⟨g, 0, none⟩) xs.length cap) xs) (k : Nat) (hk : k < xs.length) (x : Int × Int × Int) (h1 : I64 x.1) (h2 : I64 x.2.1) (h3 : I64 x.2.2) :
    OwnL tTrio (set3 w g k x.1 x.2.1 x.2.2) base (.slice (some ⟨g, 0, none⟩) xs.length cap) (xs.set k x) := by
  obtain ⟨css, ⟨hl, hr⟩, hc2, hc3, hc4⟩ := h
  rcases hr with ⟨hn, _⟩ | ⟨g', cap', cur, he, hbb, hc, hn, hm, hcs, ht⟩
  · cases hn
  · injection he with e1 e2 e3
    injection e1 with e1
    injection e1 with e1
    subst e1
    subst e3
    have hlen : (xs.set k x).length = xs.length := List.length_set
    refine ⟨css.set k (triV x), ?_, by simp [hc2], ?_, ?_⟩
    · rw [hlen]
      have hfs : (css.set k (triV x)).flatten = ((css.flatten.set (k * 3) (.int .i64 x.1)).set (k * 3 + 1) (.int .i64 x.2.1)).set (k * 3 + 2) (.int .i64 x.2.2) := flat_set3 css k _ _ _ hc3 (by omega)
      rw [hfs]
      refine ⟨by simpa using hl, .inr ⟨g, cap, _, rfl, hbb, blk_set (blk_set (blk_set hc (k * 3) (.int .i64 x.1)) (k * 3 + 1) (.int .i64 x.2.1)) (k * 3 + 2) (.int .i64 x.2.2), hn, hm, by simpa using hcs, ?_⟩⟩
      simp only [Array.toList_setIfInBounds, List.take_set, ht]
    · intro c hc'
      rcases List.mem_or_eq_of_mem_set hc' with h | h
      · exact hc3 c h
      · rw [h]; rfl
    · intro i c y hi hy
      by_cases hik : k = i
      · subst hik
        rw [List.getElem?_set_self (by omega)] at hi hy
        injection hi with hi
        injection hy with hy
        subst hi
        subst hy
        exact trio_mk _ h1 h2 h3
      · rw [List.getElem?_set_ne hik] at hi hy
        exact hc4 i c y hi hy
theorem but_three (wr : World) (g i j l : Nat) (u v x : Value) : But (fun j => j = g) wr (((wr.setCell ⟨g, i, none⟩ u).setCell ⟨g, j, none⟩ v).setCell ⟨g, l, none⟩ x).drew :=
  But.drew (But.setCell (F := fun j => j = g) (p := ⟨g, l, none⟩) (But.setCell (F := fun j => j = g) (p := ⟨g, j, none⟩) (But.setCell (F := fun j => j = g) (p := ⟨g, i, none⟩) (But.refl _ wr) (.inl rfl) u) (.inl rfl) v) (.inl rfl) x)
theorem put_stepT {wr : World} {base : Nat} {vs : List Value} {C : List (List (Int × Int × Int))} {n g k vc m : Nat} {A B : List (Int × Int × Int)} {x : Int} (h : Lots tTrio wr base vs (C.set n A)) (hn : n < C.length) (hv : vs[n]? = some (.slice (some ⟨g, 0, none⟩) m vc)) (hA : A.length = m) (hk : k < m) (hx : I64 x) (hB : A.set k (x, 0, 0) = B) :
    Lots tTrio (set3 wr g k x 0 0).drew base vs (C.set n B) := by
  subst hA
  have ho := h.own n _ A hv (List.getElem?_set_self hn)
  have ho2 := OwnL.put3 ho k hk (x, 0, 0) hx (by decide : I64 0) (by decide : I64 0)
  have ho3 : OwnL tTrio (set3 wr g k x 0 0).drew base (.slice (some ⟨g, 0, none⟩) A.length vc) B := by
    rw [hB] at ho2
    exact ho2.keep (Nat.le_refl _) (fun _ _ => rfl)
  have hset := h.set trio_Free hv ho3 ⟨rfl, rfl, rfl, by simp [World.drew], fun j hj hne => by
    have hjg : j ≠ g := fun e => hne (by rw [e]; rfl)
    exact (Below.heap_setCell _ ⟨g, k * 3 + 2, none⟩ _ j hjg).trans ((Below.heap_setCell _ ⟨g, k * 3 + 1, none⟩ _ j hjg).trans (Below.heap_setCell _ ⟨g, k * 3, none⟩ _ j hjg))⟩ (.inl rfl)
  rw [set_self hv, List.set_set] at hset
  exact hset
theorem put_nextT {C : List (List (Int × Int × Int))} {n : Nat} {l : List (Int × Int × Int)} (h : ∀ (i : Nat) (l : List (Int × Int × Int)), C[i]? = some l → (i < n → l = marksT i 0 l.length) ∧ l.length ≤ 100000) (hn : n < C.length) (hl : l.length ≤ 100000) :
    ∀ (i : Nat) (c : List (Int × Int × Int)), (C.set n (marksT n 0 l.length))[i]? = some c → (i < n + 1 → c = marksT i 0 c.length) ∧ c.length ≤ 100000 := by
  intro i c hc
  by_cases hi : n = i
  · subst hi
    rw [List.getElem?_set_self hn] at hc
    injection hc with hc
    subst hc
    rw [marksT_len]
    exact ⟨fun _ => rfl, hl⟩
  · rw [List.getElem?_set_ne hi] at hc
    have := h i c hc
    exact ⟨fun h2 => this.1 (by omega), this.2⟩

set_option maxHeartbeats 16000000 in
set_option maxRecDepth 100000 in
theorem putTrio_any {w : World} {b base : Nat} {cs : Array Value} {a6 : Option Addr} {c6 : Nat} {vs : List Value} {L : List (List (Int × Int × Int))} (hb : w.heap[b]? = some (.cells cs 41 (0, 0)))
    (h6 : cs[16]? = some (.slice a6 vs.length c6)) (ho : OwnL tTrioV w base (.slice a6 vs.length c6) vs) (hl : Lots tTrio w base vs L) (hbb : ¬ InV vs b) (hap : ∀ v ∈ vs, ApartV (.slice a6 vs.length c6) v) (hn : vs.length ≤ 1000)
    (hL : ∀ (i : Nat) (l : List (Int × Int × Int)), L[i]? = some l → l.length ≤ 100000) :
    Calls Tryz.prog 43 #[.pointer (some ⟨b, 0, none⟩)] w fun e w' => e = .returned (.tuple #[]) ∧ But (InV vs) w w' ∧ ∃ C, Lots tTrio w' base vs C ∧ ∀ (i : Nat) (l : List (Int × Int × Int)), C[i]? = some l → l = marksT i 0 l.length ∧ l.length ≤ 100000 := by
  have HSW : Hid (∀ W, But (InV vs) w W → Sl tTrioV W (fun _ => True) a6 vs) := Lib.hid (fun W hW => (ho.but trioV_Free hW (fun k hk hf => by
    obtain ⟨v, hv, hvk⟩ := hf
    rcases hap v hv with h | h
    · rw [h] at hk; cases hk
    · exact h (by rw [hk, hvk]))).sl)
  have HLL := Lib.hid hl
  have HL := Lib.hid hL
  have hbl := blk_lt hb
  have HC6 : Hid (∀ W, But (InV vs) w W → W.cell? ⟨b, 16, none⟩ = some (.slice a6 vs.length c6)) := Lib.hid (fun W hW => by rw [blk_cells ((hW.block b hbl hbb).trans hb)]; exact h6)
  have HAB : Hid (∀ ad, a6 = some ad → ¬ InV vs ad.block) := Lib.hid (fun ad ha ⟨v, hv, hvk⟩ => by
    subst ha
    rcases hap v hv with h | h
    · cases h
    · exact h hvk.symm)
  have HLT : Hid (∀ k, InV vs k → k < w.heap.size) := Lib.hid (fun k ⟨v, hv, hk⟩ => (hl.lt hv k hk).2)
  clear ho hl hL hb h6 hap
  go_enter Tryz.func43, Tryz.ntmps43
  go_wp2_with fail
  go_loopw [2] (fun vi wr => ∃ (n : Nat) (C : List (List (Int × Int × Int))), n ≤ vs.length ∧ vi = .int .i64 n ∧ Lots tTrio wr base vs C ∧ But (InV vs) w wr ∧ Hid (∀ (i : Nat) (l : List (Int × Int × Int)), C[i]? = some l → (i < n → l = marksT i 0 l.length) ∧ l.length ≤ 100000)) (fun vi _ => vs.length - (Go.RowKit.intOf vi).toNat)
  case atStart => exact ⟨0, L, Nat.zero_le _, rfl, HLL.out, But.refl _ _, Lib.hid (fun i l h => ⟨fun h0 => by omega, HL.out i l h⟩)⟩
  case round =>
    obtain ⟨n, C, hnn, rfl, hlo, hbt, HCM⟩ := hrel
    have HLO := Lib.hid hlo
    have HB := Lib.hid hbt
    have hbl' : b < wr.heap.size := Nat.lt_of_lt_of_le hbl hbt.size
    have hz6 := HC6.out wr hbt
    clear hbt hlo
    by_cases hlt : n < vs.length
    · have hlt2 : n < C.length := by have := HLO.out.len; omega
      obtain ⟨l, hl⟩ : ∃ l, C[n]? = some l := ⟨_, List.getElem?_eq_getElem hlt2⟩
      have hll := (HCM.out n l hl).2
      obtain ⟨v, hv⟩ : ∃ v, vs[n]? = some v := ⟨_, List.getElem?_eq_getElem hlt⟩
      have hvn : vs[n] = v := by rw [List.getElem?_eq_getElem hlt] at hv; injection hv
      have hown := HLO.out.own n v l hv hl
      obtain ⟨ad, rfl, hadl, hc0⟩ := val_atT (HSW.out wr HB.out) n hlt
      have HMK : Hid (Calls Tryz.prog 88 #[.int .i64 (n : Int), .int .i64 0, .int .i64 (l.length : Int)] wr fun e w' => ∃ v, e = .returned v ∧ OwnL tTrio w' wr.heap.size v (marksT n 0 l.length) ∧ Below wr.heap.size wr w') := Lib.hid (markTrio_any n 0 l.length (by omega) (by omega) (by omega) wr)
      have HL0 := Lib.hid hl
      have HV0 := Lib.hid hv
      have hml := marksT_len n 0 l.length
      rw [hvn] at hc0
      obtain ⟨va, vc, hve, hvc, hvm, _⟩ := hown.slice
      have HVE := Lib.hid hve
      rw [hve] at hc0
      clear hl hv hvn hown hve hvc hvm
      go_wp2_with fail
      refine HMK.out.mono ?_
      rintro en w2 ⟨v2, rfl, ho2, hb2⟩
      obtain ⟨ma, mc, rfl, _, _, hms⟩ := ho2.slice
      have HMF : Hid (∀ k, (Value.slice ma (marksT n 0 l.length).length mc).ownBlock = some k → ¬ InV vs k) := Lib.hid (fun k hk hf => by
        have h1 := ho2.lt k hk
        have h2 := HLT.out k hf
        have := HB.out.size
        omega)
      have HMS : Hid (∀ W, But (InV vs) w2 W → Sl tTrio W (fun _ => True) ma (marksT n 0 l.length)) := Lib.hid (fun W hW => (ho2.but trio_Free hW HMF.out).sl)
      have HB2 : Hid (But (InV vs) w w2) := Lib.hid (HB.out.call hb2)
      have HLO2 := Lib.hid (HLO.out.below hb2)
      rw [hml]
      clear ho2 hb2 hms HMK hc0 hml
      go_wp2_with fail
      go_loopw [4] (fun vk wk => ∃ k : Nat, k ≤ l.length ∧ vk = .int .i64 k ∧ Lots tTrio wk base vs (C.set n (marksT n 0 k ++ l.drop k)) ∧ But (InV vs) w2 wk) (fun vk _ => l.length - (Go.RowKit.intOf vk).toNat)
      case atStart => exact ⟨0, Nat.zero_le _, rfl, by
        have e : C.set n (marksT n 0 0 ++ l.drop 0) = C := set_self (by simpa [marksT] using HL0.out)
        rw [e]
        exact HLO2.out, But.refl _ _⟩
      case round =>
        obtain ⟨k, hkk, rfl, hlo3, hbt3⟩ := hrel
        have HLO3 := Lib.hid hlo3
        have HB3 := Lib.hid hbt3
        have hxl : (marksT n 0 k ++ l.drop k).length = l.length := by rw [List.length_append, marksT_len, List.length_drop]; omega
        clear hlo3 hbt3
        by_cases hk : k < l.length
        · have hown := HLO3.out.own n v (marksT n 0 k ++ l.drop k) HV0.out (List.getElem?_set_self hlt2)
          have hin : ∀ g, v.ownBlock = some g → InV vs g := fun g hg => ⟨v, List.mem_of_getElem? HV0.out, hg⟩
          have HVV := Lib.hid HVE.out
          rw [HVE.out] at hown hin
          obtain ⟨g, rfl, cur, hcur⟩ := own_rowT hown (by omega)
          have hgi := hin g rfl
          obtain ⟨md, hmd, _, hmdl, hm0, hm1, hm2, _⟩ := trio_at (HMS.out wr HB3.out) k (by rw [marksT_len]; exact hk)
          subst hmd
          obtain ⟨xd, hxd, _, _, hx0, hx1, hx2, _⟩ := trio_at hown.sl k (by omega)
          injection hxd with hxd
          subst hxd
          rw [add0] at hx0 hx1 hx2
          have HX : Hid (I64 (-1000 * (n : Int) - (k : Int) - 1)) := Lib.hid (i64_ofB (by omega) (by omega))
          rw [marksT_at] at hm0 hm1 hm2
          have hz6' := HC6.out wr (HB2.out.trans HB3.out)
          have hc0 := (val_atT (HSW.out wr (HB2.out.trans HB3.out)) n hlt)
          obtain ⟨ad', had', hadl', hc0⟩ := hc0
          injection had' with had'
          subst had'
          rw [show vs[n] = v from by have := HV0.out; rw [List.getElem?_eq_getElem hlt] at this; injection this, HVV.out] at hc0
          have HGI := Lib.hid hgi
          have hgl := blk_lt hcur
          have hbg : b ≠ g := fun e => hbb (e ▸ hgi)
          have hag : ad.block ≠ g := fun e => HAB.out ad rfl (e ▸ hgi)
          have hmg : md.block ≠ g := fun e => HMF.out md.block rfl (e ▸ hgi)
          have hbw : b < wr.heap.size := Nat.lt_of_lt_of_le hbl (HB2.out.trans HB3.out).size
          have HCE : Hid (∀ W, But (fun j => j = g) wr W → W.cell? ⟨b, 16, none⟩ = some (.slice (some ad) vs.length c6) ∧ W.cell? (ad.add n) = some (.slice (some ⟨g, 0, none⟩) l.length vc) ∧ W.cell? (md.add (k * 3)) = some (.int .i64 (-1000 * (n : Int) - (k : Int) - 1)) ∧ W.cell? ⟨(md.add (k * 3)).block, (md.add (k * 3)).off + 1, none⟩ = some (.int .i64 0) ∧ W.cell? ⟨(md.add (k * 3)).block, (md.add (k * 3)).off + 2, none⟩ = some (.int .i64 0)) := Lib.hid (fun W hW =>
            ⟨(World.cell?_of_block (hW.block b hbw hbg)).trans hz6', (World.cell?_of_block (by rw [add_block]; exact hW.block _ hadl' hag)).trans hc0, (World.cell?_of_block (by rw [add_block]; exact hW.block _ hmdl hmg)).trans hm0, (World.cell?_of_block (by show W.heap[(md.add (k * 3)).block]? = _; rw [add_block]; exact hW.block _ hmdl hmg)).trans hm1, (World.cell?_of_block (by show W.heap[(md.add (k * 3)).block]? = _; rw [add_block]; exact hW.block _ hmdl hmg)).trans hm2⟩)
          have HBD : Hid (But (fun j => j = g) wr wr.drew) := Lib.hid ((But.refl _ _).drew)
          have HST := Lib.hid (HCE.out (set3 wr g k (-1000 * (n : Int) - (k : Int) - 1) 0 0).drew (but_three wr g _ _ _ _ _ _))
          have hfz := blk_frz hcur
          have HOWN := Lib.hid hown
          have hkl : (k : Int) < (l.length : Int) := by omega
          clear hown hin hgi hcur hmdl hm0 hm1 hm2 hz6' hadl' hc0 hbg hag hmg
          go_wp2_with fail
          go_region_held3 (fun w' => w'.cell? ⟨b, 16, none⟩ = some (.slice (some ad) vs.length c6) ∧ w'.cell? (ad.add n) = some (.slice (some ⟨g, 0, none⟩) l.length vc) ∧ w'.cell? (md.add (k * 3)) = some (.int .i64 (-1000 * (n : Int) - (k : Int) - 1)) ∧ w'.cell? ⟨(md.add (k * 3)).block, (md.add (k * 3)).off + 1, none⟩ = some (.int .i64 0) ∧ w'.cell? ⟨(md.add (k * 3)).block, (md.add (k * 3)).off + 2, none⟩ = some (.int .i64 0)) (first | with_reducible exact HCE.out _ HBD.out | with_reducible exact HST.out) (fail)
          have HNX : Hid (Lots tTrio (set3 wr g k (-1000 * (n : Int) - (k : Int) - 1) 0 0).drew base vs (C.set n (marksT n 0 (k + 1) ++ l.drop (k + 1)))) := Lib.hid (put_stepT HLO3.out hlt2 (by rw [HV0.out, HVV.out]) hxl hk HX.out (set_marksT n l k hk))
          have HBX : Hid (But (InV vs) w2 (set3 wr g k (-1000 * (n : Int) - (k : Int) - 1) 0 0).drew) := Lib.hid (But.drew (But.setCell (But.setCell (But.setCell HB3.out (.inl HGI.out) _) (.inl HGI.out) _) (.inl HGI.out) _))
          go_wp2_with fail
          go_roundw
          case rel => exact ⟨k + 1, by omega, by go_num, HNX.out, HBX.out⟩
          case measure => simp [Go.RowKit.intOf]; omega
        · obtain rfl : k = l.length := by omega
          go_wp2_with fail
          have HLF : Hid (Lots tTrio wr base vs (C.set n (marksT n 0 l.length))) := Lib.hid (by have := HLO3.out; rwa [List.drop_length, List.append_nil] at this)
          go_wp2_with fail
          go_roundw
          case rel => exact ⟨n + 1, _, by omega, by go_num, HLF.out, HB2.out.trans HB3.out, Lib.hid (put_nextT HCM.out hlt2 hll)⟩
          case measure => simp [Go.RowKit.intOf]; omega
    · obtain rfl : n = vs.length := by omega
      go_wp2_with fail
      go_end0
      refine ⟨rfl, HB.out, C, HLO.out, fun i l hl => ⟨(HCM.out i l hl).1 ?_, (HCM.out i l hl).2⟩⟩
      have := (List.getElem?_eq_some_iff.1 hl).1
      have := HLO.out.len
      omega
end Go.Proofs.YtacemlbfifhllaaGreat
