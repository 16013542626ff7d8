/- The document's Put, walked. -/
import Derived.Test.YtacemlbfifhllaaGreatX06GatesPlay
import Derived.Deep.RegionWith
import Derived.Deep.LoopGhost
set_option linter.unusedVariables false
set_option linter.unusedSimpArgs false
namespace Go.Proofs.YtacemlbfifhllaaGreat
open Go.RowKit Go.Maps

theorem sl_appJ {wx : World} {x : Jn} {la : Option Addr} {lc : Nat} {base B : Nat} {vo : Value} {O : List Jn} (hr : tJn.R wx (fun k => k < B) (jcs x la lc) x) (ho : OwnL tJn wx base vo O) (n : Nat) (hB : B ≤ base := by omega) :
    Sl tJn ((wx.drewN n).alloc (.cells #[.int .i64 x.id, .int .i64 x.en, .int .i64 x.pe, .string x.ref, .slice la x.lines.length lc, .bool x.void] 120)) (fun k => some k ≠ vo.ownBlock ∧ k < ((wx.drewN n).alloc (.cells #[.int .i64 x.id, .int .i64 x.en, .int .i64 x.pe, .string x.ref, .slice la x.lines.length lc, .bool x.void] 120)).heap.size)
      (some ⟨wx.heap.size, 0, none⟩) [x] := by
  have hlt := ho.lt
  refine sl_oneJ (a := la) (cap := lc) (blk_new (wx.drewN n) _) ⟨fun e => by have := hlt _ e.symm; omega, by simp⟩ ?_
  refine tJn.mono (fun k hk hf => ⟨fun e => ?_, hk⟩) (tJn.keep (w := wx.drewN n) (fun k hk _ => Below.heap_alloc (wx.drewN n) _ k hk) (show tJn.R (wx.drewN n) (fun k => k < B) (jcs x la lc) x from tJn.keep (fun k hk _ => rfl) hr))
  have := hlt _ e.symm
  have hf' : k < B := hf
  omega

theorem sl_appC {w2 : World} {x : Jn} {la : Option Addr} {lc : Nat} {base B : Nat} {vo : Value} {O : List Jn} (hr : tJn.R w2 (fun k => B ≤ k ∧ k < w2.heap.size) (jcs x la lc) x) (ho : OwnL tJn w2 base vo O) (hB : ∀ k, vo.ownBlock = some k → k < B) :
    Sl tJn (w2.alloc (.cells #[.int .i64 x.id, .int .i64 x.en, .int .i64 x.pe, .string x.ref, .slice la x.lines.length lc, .bool x.void] 120)) (fun k => some k ≠ vo.ownBlock ∧ k < (w2.alloc (.cells #[.int .i64 x.id, .int .i64 x.en, .int .i64 x.pe, .string x.ref, .slice la x.lines.length lc, .bool x.void] 120)).heap.size)
      (some ⟨w2.heap.size, 0, none⟩) [x] := by
  have hlt := ho.lt
  refine sl_oneJ (a := la) (cap := lc) (blk_new w2 _) ⟨fun e => by have := hlt _ e.symm; omega, by simp⟩ ?_
  refine tJn.mono (fun k hk hf => ⟨fun e => ?_, hk⟩) (tJn.keep (fun k hk _ => Below.heap_alloc w2 _ k hk) hr)
  have := hB _ e.symm
  have hf' := hf.1
  omega

end Go.Proofs.YtacemlbfifhllaaGreat


/- law6.Fit: the journals that can be posted one behind the other. -/
set_option linter.unusedVariables false
set_option linter.unusedSimpArgs false
namespace Go.Proofs.YtacemlbfifhllaaGreat
open Go.RowKit Go.Maps

def fitStep (m : Nat) (O : List Jn) (x : Jn) : List Jn := if O.length < m then (if decide ((x.lines.length : Int) ≤ 8) && postJ O x == 0 then putJ O x else O) else O
def fitJ (m : Nat) (l : List Jn) : List Jn := l.foldl (fitStep m) []
theorem fitJ_succ (m : Nat) (l : List Jn) (n : Nat) (hn : n < l.length) : fitJ m (l.take (n + 1)) = fitStep m (fitJ m (l.take n)) l[n] := by
  unfold fitJ
  rw [List.take_succ_eq_append_getElem hn, List.foldl_append]
  rfl
theorem fit_stop (m : Nat) (O : List Jn) (h : ¬ O.length < m) : ∀ (l : List Jn), l.foldl (fitStep m) O = O
  | [] => rfl
  | x :: r => by
    rw [List.foldl_cons]
    have : fitStep m O x = O := by simp [fitStep, h]
    rw [this]
    exact fit_stop m O h r
theorem fitJ_full (m : Nat) (l : List Jn) (n : Nat) (h : ¬ (fitJ m (l.take n)).length < m) : fitJ m l = fitJ m (l.take n) := by
  have : fitJ m l = (l.drop n).foldl (fitStep m) (fitJ m (l.take n)) := by
    unfold fitJ
    rw [← List.foldl_append, List.take_append_drop]
  rw [this, fit_stop m _ h]
theorem putJ_len (l : List Jn) (j : Jn) : (putJ l j).length ≤ l.length + 1 := by
  have := putS_len j l
  unfold putJ
  split
  · rename_i h; rw [h] at this; simpa using this
  · rename_i h; simp [h] at this; simp; omega
theorem fitJ_len (m : Nat) : ∀ (l : List Jn) (O : List Jn), O.length ≤ m → (l.foldl (fitStep m) O).length ≤ m
  | [], O, h => h
  | x :: r, O, h => by
    rw [List.foldl_cons]
    refine fitJ_len m r _ ?_
    unfold fitStep
    split
    · split
      · have := putJ_len O x; omega
      · exact h
    · exact h
theorem post_ok_lines {O : List Jn} {x : Jn} (h : postJ O x = 0) : x.lines ≠ [] := by
  have h1 : chk x = 0 := by
    rcases post_cases O x with ⟨h1, h2⟩ | ⟨h1, _⟩
    · rw [h] at h2; exact h2.symm
    · simpa using h1
  intro he
  have : frontBad x = true := by simp [frontBad, he]
  simp [chk, this] at h1

end Go.Proofs.YtacemlbfifhllaaGreat


/- variorumbook.Room, Few. -/
set_option linter.unusedVariables false
set_option linter.unusedSimpArgs false
namespace Go.Proofs.YtacemlbfifhllaaGreat
open Go.RowKit Go.Maps

def RoomPost (w : World) (e : Ending) (w' : World) : Prop := (∃ k : Int, e = .returned (.int .i64 k) ∧ -1 ≤ k ∧ k ≤ 2000) ∧ w' = w
end Go.Proofs.YtacemlbfifhllaaGreat


/- book: ahead, holds. -/
set_option linter.unusedVariables false
set_option linter.unusedSimpArgs false
namespace Go.Proofs.YtacemlbfifhllaaGreat
open Go.RowKit Go.Maps

theorem holds_cases {h x : Jn} {b : Bool} (hc : clash h x = b) : (b = false ∧ (x.void = true ∨ x.void = false ∧ ((x.id != h.id) = false ∨ (x.id != h.id) = true ∧ ((x.en == h.en) = false ∨ (x.en == h.en) = true ∧ (x.ref.toList == h.ref.toList) = false)))) ∨
    (b = true ∧ x.void = false ∧ (x.id != h.id) = true ∧ (x.en == h.en) = true ∧ (x.ref.toList == h.ref.toList) = true) := by
  subst hc
  unfold clash
  cases x.id != h.id <;> cases x.void <;> cases x.ref.toList == h.ref.toList <;> cases x.en == h.en <;> simp

end Go.Proofs.YtacemlbfifhllaaGreat


/- slices.IndexFunc, ContainsFunc at a holder's question. -/
set_option linter.unusedVariables false
set_option linter.unusedSimpArgs false
namespace Go.Proofs.YtacemlbfifhllaaGreat
open Go.RowKit Go.Maps

def IdxPost (w : World) (b : Bool) (e : Ending) (w' : World) : Prop := (∃ k : Int, e = .returned (.int .i64 k) ∧ decide (0 ≤ k) = b) ∧ Below w.heap.size w w'
end Go.Proofs.YtacemlbfifhllaaGreat


/- book: taken. -/
set_option linter.unusedVariables false
set_option linter.unusedSimpArgs false
namespace Go.Proofs.YtacemlbfifhllaaGreat
open Go.RowKit Go.Maps

end Go.Proofs.YtacemlbfifhllaaGreat


/- book: where a number stands: slices.BinarySearchFunc at ahead, find. -/
set_option linter.unusedVariables false
set_option linter.unusedSimpArgs false
namespace Go.Proofs.YtacemlbfifhllaaGreat
open Go.RowKit Go.Maps

def ahd (x id : Int) : Int := wrap64 (x - id)
theorem ahd_zero {x id : Int} (h1 : I64 x) (h2 : I64 id) : (ahd x id == 0) = (x == id) := by
  have := i64_bd h1
  have := i64_bd h2
  unfold ahd wrap64
  rw [Bool.eq_iff_iff]
  simp only [beq_iff_eq]
  omega
theorem ahd_small {x id : Int} (h1 : 1 ≤ x ∧ x ≤ 999999) (h2 : 1 ≤ id ∧ id ≤ 999999) : ahd x id = x - id := by
  unfold ahd wrap64
  omega

/-- journals in the order of their numbers, which may be -/
structure OrdJ (l : List Jn) : Prop where
  ord : ∀ i k (hi : i < l.length) (hk : k < l.length), i < k → l[i].id < l[k].id
  ok : ∀ x ∈ l, 1 ≤ x.id ∧ x.id ≤ 999999
def lowB (l : List Jn) (id : Int) : Nat := l.countP (fun x => decide (x.id < id))
def inId (id : Int) : Bool := decide (1 ≤ id) && decide (id ≤ 999999)
theorem inId_bd {id : Int} (h : inId id = true) : 1 ≤ id ∧ id ≤ 999999 := by simpa [inId] using h

theorem lowB_is (l : List Jn) (id : Int) : ∀ (k : Nat), k ≤ l.length → (∀ t (h : t < l.length), t < k → l[t].id < id) → (∀ t (h : t < l.length), k ≤ t → id ≤ l[t].id) → lowB l id = k := by
  unfold lowB
  induction l with
  | nil => intro k hk _ _; simp at hk; simp [hk]
  | cons a r ih =>
    intro k hk h1 h2
    cases k with
    | zero =>
      rw [List.countP_eq_zero]
      intro x hx
      obtain ⟨t, ht, rfl⟩ := List.getElem_of_mem hx
      have := h2 t ht (Nat.zero_le _)
      simp; omega
    | succ k =>
      have ha := h1 0 (by simp) (by omega)
      rw [List.countP_cons_of_pos (by simpa using ha), ih k (by simpa using hk) (fun t h ht => h1 (t + 1) (Nat.succ_lt_succ h) (by omega)) (fun t h ht => h2 (t + 1) (Nat.succ_lt_succ h) (by omega))]

theorem hasJ_in {l : List Jn} (hO : OrdJ l) {id : Int} (h : hasJ l id = true) : inId id = true := by
  unfold hasJ at h
  rw [List.any_eq_true] at h
  obtain ⟨x, hx, he⟩ := h
  have := hO.ok x hx
  simp at he
  subst he
  simp [inId, this]

/-- where the search ends -/
structure Ends (l : List Jn) (id : Int) (k : Nat) : Prop where
  le : k ≤ l.length
  low : inId id = true → k = lowB l id
  here : hasJ l id = true → ∃ h : k < l.length, l[k].id = id
  at_ : ∀ h : k < l.length, (l[k].id == id) = hasJ l id
  past : ¬ k < l.length → hasJ l id = false

theorem ends_of {l : List Jn} (hO : OrdJ l) {id : Int} {k : Nat} (hk : k ≤ l.length) (H : inId id = true → (∀ t (h : t < l.length), t < k → l[t].id < id) ∧ (∀ t (h : t < l.length), k ≤ t → id ≤ l[t].id)) : Ends l id k := by
  have hhere : hasJ l id = true → ∃ h : k < l.length, l[k].id = id := by
    intro h
    obtain ⟨h1, h2⟩ := H (hasJ_in hO h)
    unfold hasJ at h
    rw [List.any_eq_true] at h
    obtain ⟨x, hx, he⟩ := h
    simp at he
    obtain ⟨t, ht, rfl⟩ := List.getElem_of_mem hx
    have htk : k ≤ t := by
      rcases Nat.lt_or_ge t k with h | h
      · have := h1 t ht h; omega
      · exact h
    rcases Nat.lt_or_eq_of_le htk with h | h
    · have a := h2 k (by omega) (Nat.le_refl _)
      have b := hO.ord k t (by omega) ht h
      omega
    · subst h
      exact ⟨ht, he⟩
  refine ⟨hk, fun h => ((lowB_is l id k hk (H h).1 (H h).2).symm), hhere, fun h => ?_, fun h => ?_⟩
  · cases hh : hasJ l id with
    | true =>
      obtain ⟨_, h2⟩ := hhere hh
      simpa using h2
    | false =>
      have : ∀ x ∈ l, (x.id == id) = false := by
        unfold hasJ at hh
        rw [List.any_eq_false] at hh
        intro x hx
        simpa using hh x hx
      exact this _ (List.getElem_mem h)
  · cases hh : hasJ l id with
    | true => obtain ⟨h2, _⟩ := hhere hh; exact absurd h2 h
    | false => rfl

def FindPost (w : World) (l : List Jn) (id : Int) (e : Ending) (w' : World) : Prop := ∃ k : Nat, e = .returned (.tuple #[.int .i64 k, .bool (hasJ l id)]) ∧ Ends l id k ∧ Below w.heap.size w w'

end Go.Proofs.YtacemlbfifhllaaGreat
