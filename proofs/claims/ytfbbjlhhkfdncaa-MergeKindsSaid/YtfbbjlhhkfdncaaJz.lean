/- The document's Post. -/
import Derived.Test.YtfbbjlhhkfdncaaJy
set_option linter.unusedVariables false
set_option linter.unusedSimpArgs false
namespace Go.Proofs.Ytfbbjlhhkfdncaa
open Go.RowKit Go.Maps

def postJ (l : List Jn) (j : Jn) : Int := if chk j != 0 then chk j else if hasJ l j.id then 7 else if takenJ l j then 8 else if decide (200 ≤ (l.length : Int)) then 13 else 0
theorem post_cases (l : List Jn) (j : Jn) : (chk j != 0) = true ∧ postJ l j = chk j ∨ (chk j != 0) = false ∧ (hasJ l j.id = true ∧ postJ l j = 7 ∨ hasJ l j.id = false ∧ (takenJ l j = true ∧ postJ l j = 8 ∨ takenJ l j = false ∧ (200 ≤ (l.length : Int) ∧ postJ l j = 13 ∨ (l.length : Int) < 200 ∧ postJ l j = 0))) := by
  unfold postJ
  cases h1 : chk j != 0
  · cases h2 : hasJ l j.id
    · cases h3 : takenJ l j
      · by_cases h4 : 200 ≤ (l.length : Int)
        · simp [h4]
        · simp [h4]; omega
      · simp
    · simp
  · simp

theorem rtaken_is (l : List Jn) (a : Option Addr) (cap : Nat) (j : Jn) (ja : Option Addr) (jc : Nat) (w : World) {F : Nat → Prop} (hs : Sl tJn w F a l) (hl : l.length ≤ maxLen) {b : Bool} (h : takenJ l j = b) :
    Calls Try.prog 77 #[.slice a l.length cap, jnv j ja jc] w fun e w' => e = .returned (.bool b) ∧ Below w.heap.size w w' := by
  have := rtaken_any l a cap j ja jc w hs hl
  rwa [h] at this

set_option maxHeartbeats 4000000 in
set_option maxRecDepth 100000 in
theorem rpost_any (l : List Jn) (a : Option Addr) (cap : Nat) (j : Jn) (ja : Option Addr) (jc : Nat) (w : World) {F G : Nat → Prop} (hs : Sl tJn w F a l) (hl : l.length ≤ maxLen) (hj : Sl tLn w G ja j.lines) :
    Calls Try.prog 45 #[.slice a l.length cap, jnv j ja jc] w fun e w' => e = .returned (.int .i64 (postJ l j)) ∧ Below w.heap.size w w' := by
  have HS := Lib.hid hs
  have HL := Lib.hid hl
  have HJ := Lib.hid hj
  have HC := Lib.hid (post_cases l j)
  clear hs hl hj
  obtain ⟨id, en, pe, ref, lines, void⟩ := j
  generalize hp : postJ l ⟨id, en, pe, ref, lines, void⟩ = res at HC
  clear hp
  have HB := Lib.hid ((Below.refl w.heap.size w).alloc (Nat.le_refl _) (.cells #[.int .i64 id, .int .i64 en, .int .i64 pe, .string ref, .slice ja lines.length jc, .bool void] 31))
  have HZ := Lib.hid (blk_new w (.cells #[.int .i64 id, .int .i64 en, .int .i64 pe, .string ref, .slice ja lines.length jc, .bool void] 31))
  go_enter Try.func45, Try.ntmps45
  go_wp2_with fail
  refine (rcheck_any ⟨id, en, pe, ref, lines, void⟩ ja jc _ (Sl.keep (fun k hk _ => HB.out.block k hk) HJ.out)).mono ?_
  rintro e w1 ⟨rfl, hb⟩
  have HZ1 := Lib.hid (blk_below HZ.out hb)
  have HB1 := Lib.hid (belows_then HB.out HB.out.size hb)
  have hz := blk_cells HZ1.out
  clear hb
  go_wp2_with fail
  refine (rget_any l a cap id _ (Sl.keep (fun k hk _ => HB1.out.block k hk) HS.out) HL.out).mono ?_
  rintro e w2 ⟨x, xa, xc, rfl, hb, _⟩
  have HZ2 := Lib.hid (blk_below HZ1.out hb)
  have HB2 := Lib.hid (belows_then HB1.out HB1.out.size hb)
  clear hz hb
  obtain ⟨x0, x1, x2, x3, x4, x5⟩ := x
  have HZ3 := Lib.hid (blk_alloc HZ2.out (.cells #[.int .i64 x0, .int .i64 x1, .int .i64 x2, .string x3, .slice xa x4.length xc, .bool x5] 31))
  have HB3 := Lib.hid (HB2.out.alloc HB2.out.size (.cells #[.int .i64 x0, .int .i64 x1, .int .i64 x2, .string x3, .slice xa x4.length xc, .bool x5] 31))
  have hz := blk_cells HZ3.out
  rcases HC.out with ⟨h1, hr⟩ | ⟨h1, ⟨h2, hr⟩ | ⟨h2, ⟨h3, hr⟩ | ⟨h3, ⟨h4, hr⟩ | ⟨h4, hr⟩⟩⟩⟩
  · have HR := Lib.hid hr
    clear hr
    go_wp2_with fail
    go_ret
    rw [HR.out]
    exact ⟨rfl, HB3.out⟩
  · have HR := Lib.hid hr
    clear hr
    rw [h2]
    go_wp2_with fail
    go_ret
    rw [HR.out]
    exact ⟨rfl, HB3.out⟩
  · have HR := Lib.hid hr
    have H3 := Lib.hid h3
    clear hr h3
    rw [h2]
    go_wp2_with fail
    refine (rtaken_is l a cap ⟨id, en, pe, ref, lines, void⟩ ja jc _ (Sl.keep (fun k hk _ => HB3.out.block k hk) HS.out) HL.out H3.out).mono ?_
    rintro e w4 ⟨rfl, hb⟩
    have HB4 := Lib.hid (belows_then HB3.out HB3.out.size hb)
    clear hb hz
    go_wp2_with fail
    go_ret
    rw [HR.out]
    exact ⟨rfl, HB4.out⟩
  · have HR := Lib.hid hr
    have H3 := Lib.hid h3
    clear hr h3
    rw [h2]
    go_wp2_with fail
    refine (rtaken_is l a cap ⟨id, en, pe, ref, lines, void⟩ ja jc _ (Sl.keep (fun k hk _ => HB3.out.block k hk) HS.out) HL.out H3.out).mono ?_
    rintro e w4 ⟨rfl, hb⟩
    have HB4 := Lib.hid (belows_then HB3.out HB3.out.size hb)
    clear hb hz
    go_wp2_with fail
    go_ret
    rw [HR.out]
    exact ⟨rfl, HB4.out⟩
  · have HR := Lib.hid hr
    have H3 := Lib.hid h3
    clear hr h3
    rw [h2]
    go_wp2_with fail
    refine (rtaken_is l a cap ⟨id, en, pe, ref, lines, void⟩ ja jc _ (Sl.keep (fun k hk _ => HB3.out.block k hk) HS.out) HL.out H3.out).mono ?_
    rintro e w4 ⟨rfl, hb⟩
    have HB4 := Lib.hid (belows_then HB3.out HB3.out.size hb)
    clear hb hz
    go_wp2_with fail
    go_ret
    rw [HR.out]
    exact ⟨rfl, HB4.out⟩
end Go.Proofs.Ytfbbjlhhkfdncaa
