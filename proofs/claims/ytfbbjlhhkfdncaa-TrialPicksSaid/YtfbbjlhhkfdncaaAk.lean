
/- Copies of lists that were handed in; lists apart from each other. -/
import Derived.Test.YtfbbjlhhkfdncaaAi
import Derived.Test.YtfbbjlhhkfdncaaRa
set_option linter.unusedVariables false
set_option linter.unusedSimpArgs false
namespace Go.Proofs.Ytfbbjlhhkfdncaa
open Go.RowKit Go.Maps Go.Deep

/-- a list that is nil has no room -/
def Ty.sliceN {P : Program} {t e : TypeId} {α : Type} (h : P.underlying t = some (.slice e)) (hn : P.cellsOf t = 1) (T : Ty P e α) (hpos : 0 < T.n) : Ty P t (List α) where
  n := 1
  R := fun w F cs xs => (Ty.slice h hn T hpos).R w F cs xs ∧ ∀ n c, cs = [.slice none n c] → c = 0
  hn := hn
  len := fun h0 => (Ty.slice h hn T hpos).len h0.1
  keep := fun hb h0 => ⟨(Ty.slice h hn T hpos).keep hb h0.1, h0.2⟩
  mono := fun hb h0 => ⟨(Ty.slice h hn T hpos).mono hb h0.1, h0.2⟩
  of := by
    intro H enc w fuel cs d ps h1 h2
    obtain ⟨x, hx⟩ := (Ty.slice h hn T hpos).of h1 h2
    refine ⟨x, hx, ?_⟩
    intro n c he
    rcases open_slice h h1 with ⟨rfl, _⟩ | ⟨a, len, cap, m, n, D, Pl, rfl, _⟩
    · simp only [List.cons.injEq, Value.slice.injEq, and_true] at he
      exact he.2.2.symm
    · simp at he
def tBals : Ty Try.prog 50 (List (Int × Int)) := Ty.sliceN Try.underlying50 (by kernel_rfl) tBal (by decide)

theorem Sl.ofw {w w' : World} {a : Option Addr} {xs : List (Int × Int)} {F : Nat → Prop} {v : Value} (h : Sl tBal w F a xs) (hb : ∀ k, k < w.heap.size → w'.heap[k]? = w.heap[k]?) (hs : w.heap.size ≤ w'.heap.size) (hv : ∀ k, v.ownBlock = some k → w.heap.size ≤ k) :
    Sl tBal w' (fun k => some k ≠ v.ownBlock ∧ k < w'.heap.size) a xs := by
  intro i x hx
  obtain ⟨ad, ces, ha, _, hlt, hc, hr⟩ := h i x hx
  refine ⟨ad, ces, ha, ⟨fun e => by have := hv _ e.symm; omega, by omega⟩, by omega, fun j u hu => ?_, ?_⟩
  · rw [← hc j u hu]
    exact World.cell?_of_block (w := w) (by rw [add_block, add_block]; exact hb _ hlt)
  · obtain ⟨rfl, h1, h2⟩ := bal_inv hr
    exact bal_mk _ h1 h2

theorem OwnL.sl {P : Program} {e : TypeId} {α : Type} {T : Ty P e α} {w : World} {base : Nat} {a : Option Addr} {n c : Nat} {xs : List α} (h : OwnL T w base (.slice a n c) xs) : Sl T w (fun _ => True) a xs := by
  obtain ⟨a', c', he, _, _, hs⟩ := h.slice
  injection he with h1 _ _
  subst h1
  exact hs
theorem LentB.sl {w : World} {base : Nat} {v : Value} {l : List (Int × Int)} (h : LentB w base v l) : ∃ g cap, v = .slice (some ⟨g, 0, none⟩) l.length cap ∧ Sl tBal w (fun _ => True) (some ⟨g, 0, none⟩) l := by
  obtain ⟨g, cap, h1, _, _, ho⟩ := h
  exact ⟨g, cap, h1, ho.sl.left⟩

set_option maxHeartbeats 2000000 in
set_option maxRecDepth 100000 in
theorem cpBal_sl (l : List (Int × Int)) (a : Option Addr) (cap : Nat) (w : World) {F : Nat → Prop} (hs : Sl tBal w F a l) (hl : l.length ≤ 100000) (hna : a = none → l = [] ∧ cap = 0) :
    Calls Try.prog 53 #[.slice a l.length cap] w fun e w' => ∃ v', e = .returned v' ∧ OwnL tBal w' w.heap.size v' l ∧ Below w.heap.size w w' := by
  obtain ⟨i0, hi, hz0, hz1, hz2⟩ := info_parts infoBal
  have HS : Hid (Sl tBal w (fun k => some k ≠ (Value.slice none 0 0).ownBlock ∧ k < w.heap.size) a l) := Lib.hid (Sl.ofw hs (fun _ _ => rfl) (Nat.le_refl _) (fun k e => by cases e))
  have HNA := Lib.hid hna
  have h63 : ([] : List (Int × Int)).length + l.length ≤ maxLen := by simp only [List.length_nil]; unfold maxLen; omega
  have hby : (([] : List (Int × Int)).length + l.length) * 16 ≤ 140737488355328 := by simp only [List.length_nil]; omega
  clear hs hna
  go_enter Try.func53, Try.ntmps53
  go_wp2_with (at_builtin; refine wp_appA (T := tBal) rfl _ _ 50 rfl i0 (.agg #[.int .i64 0, .int .i64 0]) 16 Try.underlying50 hi hz0 hz1 hz2 rfl (by decide) bal_one w.heap.size (.slice none 0 0) [] rfl (OwnL.nil _ _) a cap l rfl HNA.out HS.out h63 hby (Nat.le_refl _) ?_; intro v' w' hown hg hat; have HO := Lib.hid hown; have HB := Lib.hid (Below.grown (Below.refl w.heap.size w) hg (Nat.le_refl _) (fun k e => by cases e)); clear hown hg hat)
  go_ret
  exact ⟨v', rfl, by simpa using HO.out, HB.out⟩

set_option maxHeartbeats 4000000 in
set_option maxRecDepth 100000 in
theorem lentBal_sl (l : List (Int × Int)) (a : Option Addr) (cap : Nat) (w : World) {F : Nat → Prop} (hs : Sl tBal w F a l) (hl : l.length ≤ 100000) (hna : a = none → l = [] ∧ cap = 0) :
    Calls Try.prog 24 #[.slice a l.length cap] w fun e w' => ∃ v', e = .returned v' ∧ LentB w' w.heap.size v' l ∧ Below w.heap.size w w' := by
  obtain ⟨i0, hi, hz0, hz1, hz2⟩ := info_parts infoBal
  have HC := Lib.hid (cpBal_sl l a cap w hs hl hna)
  clear hs hna
  have hl' : l.length ≤ 9223372036854775807 := by omega
  have h63 : l.length + [((77, 0) : Int × Int)].length ≤ maxLen := by simp only [List.length_cons, List.length_nil]; unfold maxLen; omega
  have hby : (l.length + [((77, 0) : Int × Int)].length) * 16 ≤ 140737488355328 := by simp only [List.length_cons, List.length_nil]; omega
  go_enter Try.func24, Try.ntmps24
  go_wp2_with fail
  refine HC.out.mono ?_
  rintro en w1 ⟨v1, rfl, ho, hb⟩
  have HB := Lib.hid hb
  have HOA := Lib.hid (ho.alloc (.cells #[.int .i64 77, .int .i64 0] 52))
  have HBA := Lib.hid (hb.alloc hb.size (.cells #[.int .i64 77, .int .i64 0] 52))
  have HSL : Hid (Sl tBal (w1.alloc (.cells #[.int .i64 77, .int .i64 0] 52)) (fun k => some k ≠ v1.ownBlock ∧ k < (w1.alloc (.cells #[.int .i64 77, .int .i64 0] 52)).heap.size) (some ⟨w1.heap.size, 0, none⟩) [(77, 0)]) :=
    Lib.hid (sl_one2 tBal (x := (77, 0)) rfl (blk_new w1 _) ⟨fun e => by have := (ho.lt _ e.symm).2; omega, by simp⟩ (bal_mk (77, 0) (by decide) (by decide)))
  clear ho hb
  go_wp2_with (at_builtin; refine wp_app (T := tBal) rfl _ _ 50 rfl i0 (.agg #[.int .i64 0, .int .i64 0]) 16 Try.underlying50 hi hz0 hz1 hz2 rfl (by decide) bal_one w.heap.size v1 l rfl HOA.out ⟨w1.heap.size, 0, none⟩ 1 [(77, 0)] rfl HSL.out h63 hby HBA.out.size ?_; intro v2 w2 hown hg hnil hat; have HB2 := Lib.hid (Below.grown HBA.out hg HBA.out.size (fun k e => (HOA.out.lt k e).1)); have HO := Lib.hid hown; obtain ⟨g2, c2, rfl, hle2, hcm2⟩ := form_snoc hown; have hc63 : c2 ≤ 9223372036854775807 := (by unfold maxLen at hcm2; omega); clear hown hg hnil hat)
  go_ret
  exact ⟨_, rfl, ⟨g2, c2, rfl, hle2, hcm2, HO.out⟩, HB2.out⟩


theorem sl_intsB {w : World} {b : Nat} (xs : List Int) (hb : w.heap[b]? = some (.cells (xs.map (Value.int .i64)).toArray 3 (0, 0))) (h : ∀ x ∈ xs, I64 x) : Sl tInt w (fun _ => True) (some ⟨b, 0, none⟩) xs := by
  intro i x hx
  have hlt : i < xs.length := (List.getElem?_eq_some_iff.1 hx).1
  refine ⟨_, [.int .i64 x], rfl, trivial, (Array.getElem?_eq_some_iff.1 hb).1, fun j v hv => ?_, rfl, h x (List.mem_of_getElem? hx)⟩
  cases j with
  | succ j => simp at hv
  | zero =>
    simp at hv
    subst hv
    rw [Go.Addr.add_add]
    have : (⟨b, 0, none⟩ : Addr).add (i * tInt.n + 0) = ⟨b, i, none⟩ := by
      have e : i * tInt.n + 0 = i := by show i * 1 + 0 = i; omega
      rw [e]
      unfold Addr.add
      split <;> simp_all
    rw [this, cell_of_row w b i _ 3 (0, 0) hb]
    simp [hx]

/-- two lists of a call's own that share no block -/
def ApartV (u v : Value) : Prop := u.ownBlock = none ∨ u.ownBlock ≠ v.ownBlock
theorem ApartV.symm {u v : Value} (h : ApartV u v) : ApartV v u := by
  rcases h with h | h
  · cases hv : v.ownBlock with
    | none => exact .inl hv
    | some k => exact .inr (by rw [hv, h]; simp)
  · exact .inr (Ne.symm h)
theorem OwnL.apartB {w w' : World} {base : Nat} {v u : Value} {xs : List (Int × Int)} (h : OwnL tBal w base v xs) (hg : w.grownBy w' u.ownBlock) (hne : ApartV v u) : OwnL tBal w' base v xs := by
  obtain ⟨css, ⟨hr1, hr2⟩, hr3, hr4, hr5⟩ := h
  refine ⟨css, ⟨hr1, ?_⟩, hr3, hr4, fun i c y hi hy => ?_⟩
  · rcases hr2 with ⟨hn, h0⟩ | ⟨g, cap, cur, hg0, hbb, hc, rest⟩
    · exact .inl ⟨hn, h0⟩
    · refine .inr ⟨g, cap, cur, hg0, hbb, ((hg.block g (blk_lt hc) (fun e => ?_)).trans hc), rest⟩
      rcases hne with hne | hne
      · rw [hg0] at hne
        simp [Value.ownBlock] at hne
      · refine hne ?_
        rw [hg0]
        simpa [Value.ownBlock] using e
  · obtain ⟨rfl, h1, h2⟩ := bal_inv (hr5 i c y hi hy)
    exact bal_mk _ h1 h2
theorem ApartV.step {w : World} {base : Nat} {u v v' : Value} {xs : List (Int × Int)} (h : ApartV u v) (ho : OwnL tBal w base u xs) (hat : v'.ownBlock = v.ownBlock ∨ v'.ownBlock = some w.heap.size) : ApartV u v' := by
  rcases hat with e | e
  · unfold ApartV
    rw [e]
    exact h
  · right
    rw [e]
    intro he
    have := (ho.lt _ he).2
    omega
end Go.Proofs.Ytfbbjlhhkfdncaa
