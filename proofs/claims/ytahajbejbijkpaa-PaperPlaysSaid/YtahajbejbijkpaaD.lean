/- The law's first call ('alive') returns true; nothing that was there has turned. -/
import Derived.Test.YtahajbejbijkpaaC
set_option linter.unusedVariables false
set_option linter.unusedSimpArgs false
namespace Go.Proofs.Ytahajbejbijkpaa
open Go.RowKit

def sAnn : ByteArray := ⟨#[97, 110, 110]⟩
def sBob : ByteArray := ⟨#[98, 111, 98]⟩
theorem e1 : Pap.submit ⟨0, 0, ⟨#[]⟩, ⟨#[]⟩⟩ 3 ⟨#[97, 110, 110]⟩ = (⟨1, 3, ⟨#[]⟩, ⟨#[97, 110, 110]⟩⟩, 0) := by kernel_rfl
theorem e2 : Pap.approve ⟨1, 3, ⟨#[]⟩, ⟨#[97, 110, 110]⟩⟩ ⟨#[97, 110, 110]⟩ = (⟨1, 3, ⟨#[]⟩, ⟨#[97, 110, 110]⟩⟩, 10) := by kernel_rfl
theorem e3 : Pap.approve ⟨1, 3, ⟨#[]⟩, ⟨#[97, 110, 110]⟩⟩ ⟨#[98, 111, 98]⟩ = (⟨2, 3, ⟨#[98, 111, 98]⟩, ⟨#[97, 110, 110]⟩⟩, 0) := by kernel_rfl

set_option maxHeartbeats 2000000 in
theorem alive_any (w : World) : Calls Try.prog 6 #[] w fun e w' => e = .returned (.bool true) ∧ Below w.heap.size w w' := by
  have h1 := fun W => submit_any 0 0 ⟨#[]⟩ ⟨#[]⟩ 3 ⟨#[97, 110, 110]⟩ W (by decide)
  have h2 := fun W => approve_any 1 3 ⟨#[]⟩ ⟨#[97, 110, 110]⟩ ⟨#[97, 110, 110]⟩ W (by decide)
  have h3 := fun W => approve_any 1 3 ⟨#[]⟩ ⟨#[97, 110, 110]⟩ ⟨#[98, 111, 98]⟩ W (by decide)
  rw [e1] at h1
  rw [e2] at h2
  rw [e3] at h3
  have H1 := Lib.hid h1; have H2 := Lib.hid h2; have H3 := Lib.hid h3
  clear h1 h2 h3
  go_enter Try.func6, Try.ntmps6
  go_wp2_with fail
  refine (H1.out _).mono ?_
  rintro e w1 ⟨rfl, hb1⟩; obtain ⟨hchb1, hfhb1⟩ := bcell hb1; have hzhb1 := (hb1).size; (try simp at hzhb1)
  go_wp2_with fail
  refine (H2.out _).mono ?_
  rintro e w2 ⟨rfl, hb2⟩; obtain ⟨hchb2, hfhb2⟩ := bcell hb2; have hzhb2 := (hb2).size; (try simp at hzhb2)
  have : w1.heap.size < (w2).heap.size := (by omega)
  go_wp2_with fail
  refine (H3.out _).mono ?_
  rintro e w3 ⟨rfl, hb3⟩; obtain ⟨hchb3, hfhb3⟩ := bcell hb3; have hzhb3 := (hb3).size; (try simp at hzhb3)
  have : w1.heap.size < (w3).heap.size := (by omega); have : w2.heap.size < (w3).heap.size := (by omega)
  go_wp2_with fail
  refine (holds_any 2 3 _ _ 3 _).mono ?_
  rintro e w4 ⟨rfl, hb4⟩; obtain ⟨hchb4, hfhb4⟩ := bcell hb4; have hzhb4 := (hb4).size; (try simp at hzhb4)
  have : w1.heap.size < (w4).heap.size := (by omega); have : w2.heap.size < (w4).heap.size := (by omega); have : w3.heap.size < (w4).heap.size := (by omega)
  go_wp2_with fail
  refine (holds_any 2 3 _ _ 4 _).mono ?_
  rintro e w5 ⟨rfl, hb5⟩; obtain ⟨hchb5, hfhb5⟩ := bcell hb5; have hzhb5 := (hb5).size; (try simp at hzhb5)
  have : w1.heap.size < (w5).heap.size := (by omega); have : w2.heap.size < (w5).heap.size := (by omega); have : w3.heap.size < (w5).heap.size := (by omega)
  go_wp2_with fail
  go_ret
  refine ⟨rfl, ?_⟩
  (repeat (first | (with_reducible exact Below.refl _ _) | (with_reducible refine Below.setCell ?_ ?hle _; (case hle => first | omega | (simp <;> omega))) | (with_reducible refine Below.alloc ?_ ?hle _; (case hle => first | omega | (simp <;> omega))) | (with_reducible refine Below.drew ?_) | (with_reducible refine below_drewN ?_ _) | (with_reducible refine belows_then ?_ ?hle (by first | exact hb5 | exact hb4 | exact hb3 | exact hb2 | exact hb1); (case hle => first | omega | (simp <;> omega)))))
end Go.Proofs.Ytahajbejbijkpaa
