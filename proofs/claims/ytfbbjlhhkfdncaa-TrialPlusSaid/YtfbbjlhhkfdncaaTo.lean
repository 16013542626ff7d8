/- TrialParts: of every journals, entity and periods: the balances of some periods and of those behind them are, together, those of all. -/
import Derived.Test.YtfbbjlhhkfdncaaTp
import Derived.Test.YtfbbjlhhkfdncaaTk
import Derived.Test.YtfbbjlhhkfdncaaTl
import Derived.Test.YtfbbjlhhkfdncaaTh
set_option linter.unusedVariables false
set_option linter.unusedSimpArgs false
namespace Go.Proofs.Ytfbbjlhhkfdncaa
open Go.RowKit Go.Maps

theorem LentB.sl {w : World} {base : Nat} {v : Value} {l : List (Int × Int)} (h : LentB w base v l) : ∃ g cap, v = .slice (some ⟨g, 0, none⟩) l.length cap ∧ Sl tBal w (fun _ => True) (some ⟨g, 0, none⟩) l := by
  obtain ⟨g, cap, h1, _, _, ho⟩ := h
  exact ⟨g, cap, h1, ho.sl.left⟩
theorem plus_is (x y z : List (Int × Int)) (a b : Option Addr) (ca cb : Nat) (w : World) {F G : Nat → Prop} (hs : Sl tBal w F a x) (ht : Sl tBal w G b y) (hl : x.length + y.length ≤ 100000) (h : plusT (x ++ y) = (z, 0)) :
    Calls Try.prog 20 #[.slice a x.length ca, .slice b y.length cb] w fun e w' => ∃ v, e = .returned (.tuple #[v, .int .i64 0]) ∧ OwnL tBal w' w.heap.size v z ∧ Below w.heap.size w w' := by
  have := plus_any x y a b ca cb w hs ht hl
  rw [h] at this
  exact this
theorem accR_len {l : List Jn} (h : ValJ l) (e f t : Int) : (accR l e f t).length ≤ 8000 := by
  have h1 := tellS_len (accS [] (linesOf l e f t))
  have h2 := accS_len (linesOf l e f t) []
  have h3 := linesOf_len h.good (by have := h.len; omega) e f t
  simp only [List.length_nil] at h2
  unfold accR
  omega

end Go.Proofs.Ytfbbjlhhkfdncaa
