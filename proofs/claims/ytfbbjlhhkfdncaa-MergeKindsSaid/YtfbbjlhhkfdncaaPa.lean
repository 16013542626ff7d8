/- The document's Put: the plain side, and one journal as a slice. -/
import Derived.Test.YtfbbjlhhkfdncaaJz
set_option linter.unusedVariables false
set_option linter.unusedSimpArgs false
namespace Go.Proofs.Ytfbbjlhhkfdncaa
open Go.RowKit Go.Maps

theorem infoJ : (Try.prog.info? 31).map (fun i => (i.zero, i.size, i.bytes)) = some (some (.agg #[.int .i64 0, .int .i64 0, .int .i64 0, .string ⟨#[]⟩, .slice none 0 0, .bool false]), 6, 72) := by kernel_rfl
theorem jn_one (w : World) (F : Nat → Prop) (c : List Value) (x : Jn) (h : tJn.R w F c x) : ∀ u ∈ c, u.oneCell' = true := by
  obtain ⟨a, cap, rfl, _⟩ := jn_inv h
  simp [Value.oneCell']
/-- one journal in a new block of its own, as append takes it -/
theorem sl_oneJ {w : World} {F : Nat → Prop} {b : Nat} {j : Jn} {a : Option Addr} {cap : Nat} (hb : w.heap[b]? = some (.cells #[.int .i64 j.id, .int .i64 j.en, .int .i64 j.pe, .string j.ref, .slice a j.lines.length cap, .bool j.void] 31 (0, 0)))
    (hF : F b) (hr : tJn.R w F (jcs j a cap) j) : Sl tJn w F (some ⟨b, 0, none⟩) [j] := by
  intro i x hi
  cases i with
  | succ i => simp at hi
  | zero =>
    simp at hi
    subst hi
    refine ⟨_, jcs j a cap, rfl, hF, (Array.getElem?_eq_some_iff.1 hb).1, fun k u hu => ?_, hr⟩
    rw [Nat.zero_mul, Go.Addr.add_add, Nat.zero_add]
    have : (⟨b, 0, none⟩ : Addr).add k = ⟨b, k, none⟩ := by unfold Addr.add; split <;> simp_all
    rw [this, cell_of_row w b k _ 31 (0, 0) hb]
    simpa using hu

def putStep (j : Jn) (s : List Jn × Bool) (x : Jn) : List Jn × Bool :=
  let t := if !s.2 && decide (j.id ≤ x.id) then (s.1 ++ [j], true) else s
  if x.id != j.id then (t.1 ++ [x], t.2) else t
def putS (j : Jn) (l : List Jn) : List Jn × Bool := l.foldl (putStep j) ([], false)
def putJ (l : List Jn) (j : Jn) : List Jn := if (putS j l).2 then (putS j l).1 else (putS j l).1 ++ [j]
theorem putS_succ (j : Jn) (l : List Jn) (n : Nat) (hn : n < l.length) : putS j (l.take (n + 1)) = putStep j (putS j (l.take n)) l[n] := by
  unfold putS
  rw [List.take_succ_eq_append_getElem hn, List.foldl_append]
  rfl
theorem putStep_len (j : Jn) (s : List Jn × Bool) (x : Jn) : (putStep j s x).1.length + (if s.2 then 1 else 0) ≤ s.1.length + 1 + (if (putStep j s x).2 then 1 else 0) := by
  unfold putStep
  obtain ⟨o, d⟩ := s
  cases d <;> by_cases h1 : j.id ≤ x.id <;> cases h2 : x.id != j.id <;> simp [h1, h2]
theorem putS_len (j : Jn) : ∀ (l : List Jn), (putS j l).1.length ≤ l.length + (if (putS j l).2 then 1 else 0) := by
  intro l
  have : ∀ n, n ≤ l.length → (putS j (l.take n)).1.length ≤ n + (if (putS j (l.take n)).2 then 1 else 0) := by
    intro n
    induction n with
    | zero => intro _; simp [putS]
    | succ n ih =>
      intro hn
      have h1 := ih (by omega)
      rw [putS_succ j l n (by omega)]
      have h2 := putStep_len j (putS j (l.take n)) l[n]
      omega
  have h := this l.length (Nat.le_refl _)
  rwa [List.take_length] at h
theorem putS_take_len (j : Jn) (l : List Jn) (n : Nat) (hn : n ≤ l.length) : (putS j (l.take n)).1.length ≤ l.length + 1 := by
  have h := putS_len j (l.take n)
  rw [List.length_take] at h
  split at h <;> omega
end Go.Proofs.Ytfbbjlhhkfdncaa
