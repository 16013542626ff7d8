/- Contracts of Gates: what a state that is set comes to; what it tells. -/
import Derived.Test.YtacemlbfifhllaaGreatX02GatesPlay
set_option linter.unusedVariables false
set_option linter.unusedSimpArgs false
namespace Go.Proofs.YtacemlbfifhllaaGreat
open Go.RowKit Go.Maps

theorem key_two {P : Program} {t i : TypeId} {F0 F1 : Field} (hu : P.underlying t = some (.struct #[F0, F1])) (h0 : F0.type = i) (h1 : F1.type = i) (o0 : F0.offset = 0) (o1 : F1.offset = 1) (n0 : (F0.name != "_") = true) (n1 : (F1.name != "_") = true)
    (hi : P.underlying i = some (.int .i64)) (hci : P.cellsOf i = 1) (hc : P.cellsOf t = 2) (hk : P.keyType t = true) (hs : 0 < P.types.size) (a b : Int) (ha : (Lit.int .i64 a).wf = true) (hb : (Lit.int .i64 b).wf = true) :
    ∃ l, keyOf P t (.agg #[.int .i64 a, .int .i64 b]) = some l := by
  obtain ⟨m, hm⟩ : ∃ m, P.types.size = m + 1 := ⟨P.types.size - 1, by omega⟩
  refine ⟨.string (keyBytes [.int .i64 a, .int .i64 b]), ?_⟩
  simp only [bne_iff_ne, ne_eq] at n0 n1
  simp [keyOf, hu, hk, Value.formed, hc, hm, Program.keyLits, Value.cells, hci, hi, ha, hb, h0, h1, o0, o1, n0, n1]

theorem key_place (a b : Int) (ha : (Lit.int .i64 a).wf = true) (hb : (Lit.int .i64 b).wf = true) : ∃ l, keyOf Tryz.prog 62 (.agg #[.int .i64 a, .int .i64 b]) = some l :=
  key_two Tryz.underlying62 rfl rfl rfl rfl (by decide) (by decide) Tryz.underlying3 (by kernel_rfl) (by kernel_rfl) (by kernel_rfl) (of_decide_eq_true (by kernel_rfl)) a b ha hb

def mPlace : MK Tryz.prog 62 (Int × Int) where
  K := keyed_place
  ek := fun p => .agg #[.int .i64 p.1, .int .i64 p.2]
  ok := fun p => I64 p.1 ∧ I64 p.2
  key := fun k h => key_place k.1 k.2 h.1 h.2
  inj := by
    rintro ⟨a, b⟩ ⟨c, d⟩ h
    simp at h
    rw [h.1, h.2]

abbrev Gs := List ((Int × Int) × Int)
/-- a Gates behind a pointer: its field, and its map -/
structure GatesAt (w : World) (g : Nat) (r : Option Nat) (l : Gs) : Prop where
  cell : w.heap[g]? = some (.cells #[.map r] 27 (0, 0))
  map : (r = none ∧ l = []) ∨ ∃ b, r = some b ∧ MapIs mPlace (Value.int .i64) w b l

theorem zero_int (w : World) : (zeroValue 3).run Tryz.prog w = .ok (.int .i64 0) w := by kernel_rfl

def stateOf (l : Gs) (e p : Int) : Int := (look l (e, p)).getD 0
def stateTell (l : Gs) (e p : Int) : Int := if placeOk e p then stateOf l e p else 2
def mayTell (l : Gs) (e p : Int) : Int := if placeOk e p then (if stateOf l e p == 0 then 0 else 6) else 1

theorem GatesAt.lookup {w : World} {g : Nat} {r : Option Nat} {l : Gs} (h : GatesAt w g r l) {e p : Int} (he : I64 e) (hp : I64 p) :
    (Instr.lookup 25 (.map r) (.agg #[.int .i64 e, .int .i64 p]) false).run Tryz.prog w = .ok (.int .i64 (stateOf l e p)) w := by
  rcases h.map with ⟨rfl, rfl⟩ | ⟨b, rfl, hm⟩
  · have := lookup_nil mPlace (w := w) Tryz.underlying25 (k := (e, p)) ⟨he, hp⟩ (zero_int w) false
    simpa [mPlace, stateOf, look] using this
  · have := hm.lookup Tryz.underlying25 (k := (e, p)) ⟨he, hp⟩ (zero_int w)
    rw [show mPlace.ek (e, p) = .agg #[.int .i64 e, .int .i64 p] from rfl] at this
    rw [this]
    unfold stateOf
    cases look l (e, p) <;> rfl

theorem GatesAt.below {w w' : World} {g : Nat} {r : Option Nat} {l : Gs} (h : GatesAt w g r l) (hb : Below w.heap.size w w') : GatesAt w' g r l :=
  ⟨blk_below h.cell hb, h.map.imp id fun ⟨b, e, hm⟩ => ⟨b, e, hm.keep (hb.block b hm.lt)⟩⟩
theorem GatesAt.drewN {w : World} {g : Nat} {r : Option Nat} {l : Gs} (h : GatesAt w g r l) (n : Nat) : GatesAt (w.drewN n) g r l :=
  ⟨h.cell, h.map.imp id fun ⟨b, e, hm⟩ => ⟨b, e, hm.keep rfl⟩⟩

set_option maxHeartbeats 1000000 in
theorem state_any {w : World} {g : Nat} {r : Option Nat} {l : Gs} (h : GatesAt w g r l) (e p : Int) (he : I64 e) (hp : I64 p) :
    Calls Tryz.prog 10 #[.pointer (some ⟨g, 0, none⟩), .int .i64 e, .int .i64 p] w fun e' w' => e' = .returned (.int .i64 (stateTell l e p)) ∧ Below w.heap.size w w' := by
  have H := Lib.hid h
  have HE := Lib.hid he
  have HP := Lib.hid hp
  clear h he hp
  go_enter Tryz.func10, Tryz.ntmps10
  go_wp2_with fail
  refine (there_any e p _ HP.out).mono ?_
  rintro e' w1 ⟨rfl, hb⟩
  have HB := Lib.hid (belows_then ((Below.refl w.heap.size w).alloc (Nat.le_refl _) _) (by simp) hb)
  have HG := Lib.hid (H.out.below HB.out)
  have hk := blk_below (blk_new w _) hb
  have hc := blk_cells hk
  have hg := blk_cells HG.out.cell
  clear hb hk
  cases hv : placeOk e p
  · go_wp2_with fail
    go_ret
    have e1 : stateTell l e p = 2 := by simp [stateTell, hv]
    rw [e1]
    exact ⟨rfl, HB.out⟩
  · have hlk : ∀ n, (Instr.lookup 25 (.map r) (.agg #[.int .i64 e, .int .i64 p]) false).run Tryz.prog (w1.drewN n) = .ok (.int .i64 (stateOf l e p)) (w1.drewN n) := fun n => (HG.out.drewN n).lookup HE.out HP.out
    go_wp2_with fail
    go_quiet (fail)
    go_wp2_with fail
    go_ret
    have e1 : stateTell l e p = stateOf l e p := by simp [stateTell, hv]
    rw [e1]
    exact ⟨rfl, below_drewN HB.out _⟩

set_option maxHeartbeats 1000000 in
theorem gmay_any {w : World} {g : Nat} {r : Option Nat} {l : Gs} (h : GatesAt w g r l) (e p : Int) (he : I64 e) (hp : I64 p) :
    Calls Tryz.prog 12 #[.pointer (some ⟨g, 0, none⟩), .int .i64 e, .int .i64 p] w fun e' w' => e' = .returned (.int .i64 (mayTell l e p)) ∧ Below w.heap.size w w' := by
  have H := Lib.hid h
  have HE := Lib.hid he
  have HP := Lib.hid hp
  clear h he hp
  go_enter Tryz.func12, Tryz.ntmps12
  go_wp2_with fail
  refine (there_any e p _ HP.out).mono ?_
  rintro e' w1 ⟨rfl, hb⟩
  have HB := Lib.hid (belows_then ((Below.refl w.heap.size w).alloc (Nat.le_refl _) _) (by simp) hb)
  have HG := Lib.hid (H.out.below HB.out)
  have hk := blk_below (blk_new w _) hb
  have hc := blk_cells hk
  have hg := blk_cells HG.out.cell
  clear hb hk
  cases hv : placeOk e p
  · go_wp2_with fail
    go_ret
    have e1 : mayTell l e p = 1 := by simp [mayTell, hv]
    rw [e1]
    exact ⟨rfl, HB.out⟩
  · have hlk : ∀ n, (Instr.lookup 25 (.map r) (.agg #[.int .i64 e, .int .i64 p]) false).run Tryz.prog (w1.drewN n) = .ok (.int .i64 (stateOf l e p)) (w1.drewN n) := fun n => (HG.out.drewN n).lookup HE.out HP.out
    go_wp2_with fail
    go_quiet (fail)
    by_cases h0 : stateOf l e p = 0
    · have h1 : (stateOf l e p == 0) = true := by simpa using h0
      have h2 : (stateOf l e p != 0) = false := by simpa using h0
      have e1 : mayTell l e p = 0 := by simp [mayTell, hv, h0]
      have E1 := Lib.hid e1
      clear e1 h0
      go_wp2_with fail
      go_ret
      rw [E1.out]
      exact ⟨rfl, below_drewN HB.out _⟩
    · have h1 : (stateOf l e p == 0) = false := by simpa using h0
      have h2 : (stateOf l e p != 0) = true := by simpa using h0
      have e1 : mayTell l e p = 6 := by simp [mayTell, hv, h0]
      have E1 := Lib.hid e1
      clear e1 h0
      go_wp2_with fail
      go_ret
      rw [E1.out]
      exact ⟨rfl, below_drewN HB.out _⟩
end Go.Proofs.YtacemlbfifhllaaGreat
