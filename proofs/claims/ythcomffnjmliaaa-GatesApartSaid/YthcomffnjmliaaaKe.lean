/- slices.SortedFunc(maps.Keys(m)) at a map of at most one place; Gates' All there. -/
import Derived.Test.YthcomffnjmliaaaKd
import Derived.Deep.RegionLawGrows
import Derived.BigRegion
set_option linter.unusedVariables false
set_option linter.unusedSimpArgs false
namespace Go.Proofs.Ythcomffnjmliaaa
open Go.RowKit Go.Maps Go.Sort Go.Shelf

def SfPost (w : World) (lst : Gs) (e : Ending) (w' : World) : Prop :=
  ∃ (a : Option Addr) (cap : Nat), e = .returned (.slice a lst.length cap) ∧ w'.ownsRow w.heap.size 123 2 (.slice a lst.length cap) lst.length (celP (lst.map (·.1))) ∧ Below w.heap.size w w'

theorem slice_of_row {w : World} {base n k : Nat} {t : TypeId} {v : Value} {xs : List Value} (h : w.ownsRow base t k v n xs) : ∃ a cap, v = .slice a n cap := by
  rcases h.2 with ⟨rfl, rfl⟩ | ⟨g, cap, cur, rfl, _⟩
  · exact ⟨_, _, rfl⟩
  · exact ⟨_, _, rfl⟩

set_option maxHeartbeats 2000000 in
theorem sorted_small (Bm b : Nat) (lst : Gs) (fv : Value) (w : World) (hBm : Bm < w.heap.size) (hm : w.cell? ⟨Bm, 0, none⟩ = some (.map (some b))) (hM : MapIs mPlace (Value.int .i64) w b lst) (hl : lst.length ≤ 1) :
    Calls Try.prog 75 #[.func (.func 118) #[] #[.pointer (some ⟨Bm, 0, none⟩)], fv] w (SfPost w lst) := by
  have c1 := (callsIn_wide (n := 3)).1 (collect_in 3 (Nat.le_refl _) 118 #[.pointer (some ⟨Bm, 0, none⟩)] (enters_of Try.func118 (by kernel_rfl) rfl) (fun ss => ss.Perm (lst.map (·.1))) lst.length (by unfold maxLen; omega) (by omega) w (keys_gives 1 (Nat.le_refl _) Bm b lst w hBm hm hM))
  go_enter Try.func75, Try.ntmps75
  go_wp2_with fail
  refine c1.mono ?_
  rintro e w1 ⟨v, ss, rfl, hp, hrow, hnil, hb⟩
  have hss : ss = lst.map (·.1) := by
    match lst, hl, hp with
    | [], _, hp => simpa using hp
    | [x], _, hp => simpa using hp
  subst hss
  rw [List.length_map] at hrow
  obtain ⟨a, cap, rfl⟩ := slice_of_row hrow
  have HF : SfPost w lst (.returned (.slice a lst.length cap)) w1 := ⟨a, cap, rfl, hrow, hb⟩
  have HFF := Lib.hid HF
  clear HF hp hrow hnil hb c1 hm hM
  go_wp2_with fail
  refine (sort_small a lst.length cap fv (by omega) w1).mono ?_
  rintro e w' ⟨rfl, rfl⟩
  go_wp2_with fail
  go_ret
  exact HFF.out

def AllPost (w : World) (n : Nat) (e : Ending) (w' : World) : Prop :=
  (∃ a cap, e = .returned (.slice a n cap)) ∧ Below w.heap.size w w'

def AllRel (w w2 : World) (n : Nat) (vo : Value) (wr : World) : Prop := (n = 0 ∧ vo = .slice none 0 0 ∧ wr = w2) ∨ (n = 1 ∧ ∃ a cap, vo = .slice a 1 cap ∧ Below w.heap.size w wr)
theorem AllRel.zero {w w2 : World} {n : Nat} {vo : Value} {wr : World} (h : AllRel w w2 n vo wr) (hn : n < 1) : vo = .slice none 0 0 ∧ wr = w2 := by
  rcases h with ⟨_, h⟩ | ⟨h, _⟩
  · exact h
  · omega
theorem AllRel.one {w w2 : World} {n : Nat} {vo : Value} {wr : World} (h : AllRel w w2 n vo wr) (hn : 1 ≤ n) : ∃ a cap, vo = .slice a 1 cap ∧ Below w.heap.size w wr := by
  rcases h with ⟨h, _⟩ | ⟨_, h⟩
  · omega
  · exact h
theorem row_one {w : World} {base cap : Nat} {a : Option Addr} {t : TypeId} {x y : Value} (h : w.ownsRow base t 2 (.slice a 1 cap) 1 [x, y]) :
    ∃ g, a = some ⟨g, 0, none⟩ ∧ w.cell? ⟨g, 0, none⟩ = some x ∧ w.cell? ⟨g, 1, none⟩ = some y := by
  rcases h.2 with ⟨_, h0⟩ | ⟨g, cap', cur, hv, hb, hc, h1, h2, h3, h4⟩
  · omega
  · injection hv with ha _ hcap
    refine ⟨g, ha, ?_, ?_⟩
    · rw [cell_of_row w g 0 cur t (0, 0) hc]
      have := congrArg (fun l => l[0]?) h4
      simpa using this
    · rw [cell_of_row w g 1 cur t (0, 0) hc]
      have := congrArg (fun l => l[1]?) h4
      simpa using this

theorem cells_three (w : World) (b : Nat) (x y z : Value) {t : TypeId} {fr : Nat × Nat} (h : w.heap[b]? = some (.cells #[x, y, z] t fr)) : ∀ (j : Nat) (u : Value), [x, y, z][j]? = some u → w.cell? ((⟨b, 0, none⟩ : Addr).add j) = some u := by
  intro j u hj
  rw [add_plain, cell_of_row w b j #[x, y, z] t fr h]
  simpa using hj
theorem infoT : (Try.prog.info? 136).map (fun i => (i.zero, i.size, i.bytes)) = some (some (.agg #[.int .i64 0, .int .i64 0, .int .i64 0]), 3, 24) := by kernel_rfl

set_option maxHeartbeats 4000000 in
set_option maxRecDepth 100000 in
theorem all_small {w : World} {g b : Nat} {l : Gs} (h : GatesAt w g (some b) l) (hl : l.length ≤ 1) :
    Calls Try.prog 33 #[.pointer (some ⟨g, 0, none⟩)] w (AllPost w l.length) := by
  have hg := blk_cells h.cell
  have hgl := blk_lt h.cell
  have hmap : MapIs mPlace (Value.int .i64) w b l := by
    rcases h.map with ⟨x, _⟩ | ⟨b', x, hm⟩
    · cases x
    · injection x with x; subst x; exact hm
  have H := Lib.hid h
  have HM := Lib.hid hmap
  clear h hmap
  have HL := Lib.hid hl
  clear hl
  go_enter Try.func33, Try.ntmps33
  go_wp2_with fail
  refine ((callsIn_wide (n := 1)).1 (keys_in _ 1 _)).mono ?_
  rintro e w1 ⟨rfl, rfl⟩
  have HB1 := Lib.hid ((Below.refl w.heap.size w).alloc (Nat.le_refl _) (.cells #[.map (some b)] 25))
  have hbm := blk_cells (blk_new w (.cells #[.map (some b)] 25)) 0
  go_wp2_with fail
  refine (sorted_small w.heap.size b l _ _ (by simp) (by rw [hbm]; rfl) (HM.out.keep (Below.heap_alloc w _ b HM.out.lt)) HL.out).mono ?_
  rintro e w2 ⟨a, cap, rfl, hrow, hb⟩
  have HB := Lib.hid (belows_then HB1.out (by simp) hb)
  have HROW := Lib.hid hrow
  have HG := Lib.hid (H.out.below HB.out)
  have hg2 := blk_cells HG.out.cell
  clear hb hrow hg hbm
  have HIM : (l = [] ∨ ∃ p q s, l = [((p, q), s)]) := by
    have := HL.out
    match l, this with
    | [], _ => exact .inl rfl
    | [((p, q), s)], _ => exact .inr ⟨p, q, s, rfl⟩
  rcases HIM with rfl | ⟨p, q, s, rfl⟩
  · go_wp2_with fail
    go_loopw [3, 15] (fun vo vi wr => vo = .slice none 0 0 ∧ vi = .int .i64 0 ∧ wr = w2) (fun _ _ _ => 0)
    case atStart => exact ⟨rfl, rfl, rfl⟩
    case round =>
      obtain ⟨rfl, rfl, rfl⟩ := hrel
      go_wp2_with fail
      go_ret
      exact ⟨⟨_, _, rfl⟩, HB.out⟩
  · obtain ⟨g2, rfl, hcell0, hcell1⟩ := row_one HROW.out
    have hlk : ∀ W : World, (∀ k, k < w2.heap.size → W.heap[k]? = w2.heap[k]?) → (Instr.lookup 25 (.map (some b)) (.agg #[.int .i64 p, .int .i64 q]) false).run Try.prog W = .ok (.int .i64 s) W := by
      intro W hW
      have hM := HM.out.keep (w' := W) ((hW b (Nat.lt_of_lt_of_le HM.out.lt HB.out.size)).trans (HB.out.block b HM.out.lt))
      have := hM.lookup Try.underlying25 (k := (p, q)) (HM.out.oks ((p, q), s) (by simp)) (zero_int W)
      simpa [mPlace, look] using this
    go_wp2_with fail
    go_loopw [3, 15] (fun vo vi wr => ∃ n : Nat, n ≤ 1 ∧ vi = .int .i64 n ∧ AllRel w w2 n vo wr) (fun _ vi _ => 1 - (Go.RowKit.intOf vi).toNat)
    case atStart => exact ⟨0, by omega, rfl, .inl ⟨rfl, rfl, rfl⟩⟩
    case round =>
      obtain ⟨n, hn, rfl, hR⟩ := hrel
      by_cases hlt : n < 1
      · obtain ⟨rfl, rfl⟩ := hR.zero hlt
        obtain rfl : n = 0 := by omega
        go_wp2_with fail
        refine abs_world (S := fun wx => (∀ o, wx.cell? ⟨wr.heap.size, o, none⟩ = #[Value.int .i64 p, .int .i64 q][o]?) ∧ (∀ o, wx.cell? ⟨g, o, none⟩ = #[Value.map (some b)][o]?) ∧
          (∀ W : World, W.heap = wx.heap → (Instr.lookup 25 (.map (some b)) (.agg #[.int .i64 p, .int .i64 q]) false).run Try.prog W = .ok (.int .i64 s) W) ∧ Below w.heap.size w wx) ?_
          ⟨blk_cells (blk_new wr _), blk_cells (blk_alloc HG.out.cell _), fun W hW => hlk W (fun k hk => by rw [hW]; exact Below.heap_alloc wr _ k hk), HB.out.alloc HB.out.size _⟩
        clear hlk hg2
        rintro wx ⟨hk5, hgx, hlkx, hbx⟩
        have hl1 := hlkx wx.drew rfl
        have hl2 := fun n => hlkx (wx.drewN n) rfl
        have HBX := Lib.hid hbx
        clear hlkx hbx
        obtain ⟨i0, hi, hz0, hz1, hz2⟩ := info_parts infoT
        go_region_law (refine step_append_grows rfl (.tmp 19) (.tmp 31) 51 rfl 136 i0 (.agg #[.int .i64 0, .int .i64 0, .int .i64 0]) 3 24 Try.underlying51 hi hz0 hz1 hz2 rfl (by decide) none 0 0 [] (by simp [Act.eval, Act.put]) (fun _ => ⟨rfl, rfl⟩) rfl (fun b e => by cases e) ⟨wx.heap.size, 0, none⟩ 1 1 [.int .i64 p, .int .i64 q, .int .i64 s] (by simp [Act.eval, Act.put]) rfl (cells_three _ _ _ _ _ (blk_new wx.drew _)) (by simp [Value.oneCell']) (by omega) (by unfold maxLen; omega) (by omega) ?_; intro v' w' hown hgrow; obtain ⟨a', cap', rfl⟩ := slice_of_row hown)
        all_goals
          have HB2 : Below w.heap.size w w' := Below.grown ((HBX.out.drew).alloc HBX.out.size _) hgrow (Nat.le_trans HBX.out.size (by simp)) (fun k e => by cases e)
          have HB3 := Lib.hid HB2
          clear HB2 hgrow hown hl1 hl2 hk5 hgx
          go_wp2_with fail
          go_roundw
          case rel => exact ⟨1, by omega, by go_num, .inr ⟨rfl, _, _, rfl, HB3.out⟩⟩
          case measure => simp [Go.RowKit.intOf]
      · obtain ⟨a', cap', rfl, hB2⟩ := hR.one (by omega)
        have HB2 := Lib.hid hB2
        clear hB2 hlk
        go_wp2_with fail
        go_ret
        exact ⟨⟨_, _, rfl⟩, HB2.out⟩
end Go.Proofs.Ythcomffnjmliaaa
