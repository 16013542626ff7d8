/- The law PaperAgain, walked: called with any version and any two names it returns true; nothing that was there has turned. -/
import Derived.Test.YtahajbejbijkpaaD
set_option linter.unusedVariables false
set_option linter.unusedSimpArgs false
namespace Go.Proofs.Ytahajbejbijkpaa
open Go.RowKit

theorem toList_data (s : ByteArray) : s.toList = s.data.toList := by
  exact ByteArray.toList_eq s
theorem empty_of (s : ByteArray) (h : s.toList.isEmpty = true) : s = ⟨#[]⟩ := by
  have := toList_data s
  rw [this] at h
  apply ByteArray.ext
  simpa using h
theorem eq_of (s t : ByteArray) (h : (s.toList == t.toList) = true) : s = t := by
  rw [toList_data, toList_data] at h
  apply ByteArray.ext
  have := beq_iff_eq.1 h
  exact Array.toList_inj.1 this

set_option maxHeartbeats 4000000 in
theorem again_small (c : Int) (a o : ByteArray) (w : World) (ha : a.size ≤ 140737488351232) (ho : o.size ≤ 140737488351232)
    (h : c < 1 ∨ 1 ≤ c ∧ (a.toList.isEmpty = true ∨ a.toList.isEmpty = false ∧ (o.toList.isEmpty = true ∨ o.toList.isEmpty = false ∧ 60 < (a.size : Int) + (o.size : Int)))) :
    Calls Try.prog 3 #[.int .i64 c, .string a, .string o] w fun e w' => e = .returned (.bool true) ∧ Below w.heap.size w w' := by
  rcases h with h | ⟨h0, h | ⟨h1, h | ⟨h2, h⟩⟩⟩
  all_goals
    go_enter Try.func3, Try.ntmps3
    go_wp2_with (go_at_call 6; refine (alive_any _).mono ?_; rintro e w1 ⟨rfl, hb1⟩; obtain ⟨hchb1, hfhb1⟩ := bcell hb1; have hzhb1 := (hb1).size; (try simp at hzhb1))
    go_ret
    exact ⟨rfl, hb1⟩

theorem p1 (c : Int) (a : ByteArray) (h0 : 1 ≤ c) (h1 : a.toList.isEmpty = false) : Pap.submit ⟨0, 0, ⟨#[]⟩, ⟨#[]⟩⟩ c a = (⟨1, c, ⟨#[]⟩, a⟩, 0) := by
  have h0' : ¬ c < 1 := by omega
  simp [Pap.submit, h0', h1]
theorem p2 (c : Int) (a : ByteArray) : Pap.submit ⟨1, c, ⟨#[]⟩, a⟩ c a = (⟨1, c, ⟨#[]⟩, a⟩, 11) := by simp [Pap.submit]
theorem p3 (c : Int) (a : ByteArray) (h1 : a.toList.isEmpty = false) : Pap.reject ⟨1, c, ⟨#[]⟩, a⟩ a = (⟨3, c, a, a⟩, 0) := by simp [Pap.reject, Pap.decide, h1]
theorem p4 (c : Int) (a o : ByteArray) (h0 : 1 ≤ c) (h2 : o.toList.isEmpty = false) : Pap.submit ⟨3, c, a, a⟩ c o = (⟨1, c, ⟨#[]⟩, o⟩, 0) := by
  have h0' : ¬ c < 1 := by omega
  simp [Pap.submit, h0', h2]
theorem p5 (c : Int) (a : ByteArray) (h1 : a.toList.isEmpty = false) : Pap.approve ⟨1, c, ⟨#[]⟩, a⟩ a = (⟨1, c, ⟨#[]⟩, a⟩, 10) := by simp [Pap.approve, Pap.decide, Pap.other, h1]
theorem p5' (c : Int) (a o : ByteArray) (h1 : a.toList.isEmpty = false) (hne : (a.toList == o.toList) = false) : Pap.approve ⟨1, c, ⟨#[]⟩, o⟩ a = (⟨2, c, a, o⟩, 0) := by simp [Pap.approve, Pap.decide, Pap.other, h1, hne]
theorem p6' (c : Int) (a o : ByteArray) : Pap.submit ⟨2, c, a, o⟩ c a = (⟨2, c, a, o⟩, 11) := by simp [Pap.submit]
theorem p7 (c : Int) (a o : ByteArray) (h2 : o.toList.isEmpty = false) : Pap.approve ⟨3, c, a, a⟩ o = (⟨3, c, a, a⟩, 11) := by simp [Pap.approve, Pap.decide, h2]

set_option maxHeartbeats 4000000 in
theorem again_own (c : Int) (a : ByteArray) (w : World) (ha : a.size ≤ 140737488351232)
    (h0 : 1 ≤ c) (h1 : a.toList.isEmpty = false) (h3 : (a.size : Int) + (a.size : Int) ≤ 60) :
    Calls Try.prog 3 #[.int .i64 c, .string a, .string a] w fun e w' => e = .returned (.bool true) ∧ Below w.heap.size w w' := by
  have ha' : a.size ≤ 281474976710656 := by omega
  have h1' := fun W => submit_any 0 0 ⟨#[]⟩ ⟨#[]⟩ c a W ha'
  have h2' := fun W => submit_any 1 c ⟨#[]⟩ a c a W ha'
  have h3' := fun W => reject_any 1 c ⟨#[]⟩ a a W ha'
  have h4' := fun W => submit_any 3 c a a c a W ha'
  have h5' := fun W => approve_any 1 c ⟨#[]⟩ a a W ha'
  have h7' := fun W => approve_any 3 c a a a W ha'
  rw [p1 c a h0 h1] at h1'
  rw [p2 c a] at h2'
  rw [p3 c a h1] at h3'
  rw [p4 c a a h0 h1] at h4'
  rw [p5 c a h1] at h5'
  rw [p7 c a a h1] at h7'
  have H1 := Lib.hid h1'; have H2 := Lib.hid h2'; have H3 := Lib.hid h3'; have H4 := Lib.hid h4'; have H5 := Lib.hid h5'; have H7 := Lib.hid h7'
  clear h1' h2' h3' h4' h5' h7' ha'
  go_enter Try.func3, Try.ntmps3
  go_wp2_with fail
  refine (alive_any _).mono ?_
  rintro e w0 ⟨rfl, hb0⟩; obtain ⟨hchb0, hfhb0⟩ := bcell hb0; have hzhb0 := (hb0).size; (try simp at hzhb0)
  go_wp2_with fail
  refine (H1.out _).mono ?_
  rintro e w1 ⟨rfl, hb1⟩; obtain ⟨hchb1, hfhb1⟩ := bcell hb1; have hzhb1 := (hb1).size; (try simp at hzhb1)
  go_wp2_with fail
  refine (H2.out _).mono ?_
  rintro e w2 ⟨rfl, hb2⟩; obtain ⟨hchb2, hfhb2⟩ := bcell hb2; have hzhb2 := (hb2).size; (try simp at hzhb2)
  have : w1.heap.size < (w2).heap.size := (by omega)
  go_wp2_with fail
  refine (H3.out _).mono ?_
  rintro e w3 ⟨rfl, hb3⟩; obtain ⟨hchb3, hfhb3⟩ := bcell hb3; have hzhb3 := (hb3).size; (try simp at hzhb3)
  have : w1.heap.size < (w3).heap.size := (by omega); have : w2.heap.size < (w3).heap.size := (by omega)
  go_wp2_with fail
  refine (H4.out _).mono ?_
  rintro e w4 ⟨rfl, hb4⟩; obtain ⟨hchb4, hfhb4⟩ := bcell hb4; have hzhb4 := (hb4).size; (try simp at hzhb4)
  have : w1.heap.size < (w4).heap.size := (by omega); have : w2.heap.size < (w4).heap.size := (by omega); have : w3.heap.size < (w4).heap.size := (by omega)
  go_wp2_with fail
  refine (H5.out _).mono ?_
  rintro e w5 ⟨rfl, hb5⟩; obtain ⟨hchb5, hfhb5⟩ := bcell hb5; have hzhb5 := (hb5).size; (try simp at hzhb5)
  have : w1.heap.size < (w5).heap.size := (by omega); have : w2.heap.size < (w5).heap.size := (by omega); have : w3.heap.size < (w5).heap.size := (by omega); have : w4.heap.size < (w5).heap.size := (by omega)
  go_wp2_with fail
  refine (H2.out _).mono ?_
  rintro e w6 ⟨rfl, hb6⟩; obtain ⟨hchb6, hfhb6⟩ := bcell hb6; have hzhb6 := (hb6).size; (try simp at hzhb6)
  have : w1.heap.size < (w6).heap.size := (by omega); have : w2.heap.size < (w6).heap.size := (by omega); have : w3.heap.size < (w6).heap.size := (by omega); have : w4.heap.size < (w6).heap.size := (by omega); have : w5.heap.size < (w6).heap.size := (by omega)
  go_wp2_with fail
  refine (H7.out _).mono ?_
  rintro e w7 ⟨rfl, hb7⟩; obtain ⟨hchb7, hfhb7⟩ := bcell hb7; have hzhb7 := (hb7).size; (try simp at hzhb7)
  have : w1.heap.size < (w7).heap.size := (by omega); have : w2.heap.size < (w7).heap.size := (by omega); have : w3.heap.size < (w7).heap.size := (by omega); have : w4.heap.size < (w7).heap.size := (by omega); have : w5.heap.size < (w7).heap.size := (by omega); have : w6.heap.size < (w7).heap.size := (by omega)
  go_wp2_with fail
  go_ret
  refine ⟨rfl, ?_⟩
  (repeat (first | (with_reducible exact Below.refl _ _) | (with_reducible refine Below.setCell ?_ ?hle _; (case hle => first | omega | (simp <;> omega))) | (with_reducible refine Below.alloc ?_ ?hle _; (case hle => first | omega | (simp <;> omega))) | (with_reducible refine Below.drew ?_) | (with_reducible refine below_drewN ?_ _) | (with_reducible refine belows_then ?_ ?hle (by first | exact hb7 | exact hb6 | exact hb5 | exact hb4 | exact hb3 | exact hb2 | exact hb1 | exact hb0); (case hle => first | omega | (simp <;> omega)))))
set_option maxHeartbeats 4000000 in
theorem again_other (c : Int) (a o : ByteArray) (w : World) (ha : a.size ≤ 140737488351232) (ho : o.size ≤ 140737488351232)
    (h0 : 1 ≤ c) (h1 : a.toList.isEmpty = false) (h2 : o.toList.isEmpty = false) (hne : (a.toList == o.toList) = false) (h3 : (a.size : Int) + (o.size : Int) ≤ 60) :
    Calls Try.prog 3 #[.int .i64 c, .string a, .string o] w fun e w' => e = .returned (.bool true) ∧ Below w.heap.size w w' := by
  have ha' : a.size ≤ 281474976710656 := by omega
  have ho' : o.size ≤ 281474976710656 := by omega
  have h1' := fun W => submit_any 0 0 ⟨#[]⟩ ⟨#[]⟩ c a W ha'
  have h2' := fun W => submit_any 1 c ⟨#[]⟩ a c a W ha'
  have h3' := fun W => reject_any 1 c ⟨#[]⟩ a a W ha'
  have h4' := fun W => submit_any 3 c a a c o W ho'
  have h5' := fun W => approve_any 1 c ⟨#[]⟩ o a W ha'
  have h6' := fun W => submit_any 2 c a o c a W ha'
  have h7' := fun W => approve_any 3 c a a o W ho'
  rw [p1 c a h0 h1] at h1'
  rw [p2 c a] at h2'
  rw [p3 c a h1] at h3'
  rw [p4 c a o h0 h2] at h4'
  rw [p5' c a o h1 hne] at h5'
  rw [p6' c a o] at h6'
  rw [p7 c a o h2] at h7'
  have H1 := Lib.hid h1'; have H2 := Lib.hid h2'; have H3 := Lib.hid h3'; have H4 := Lib.hid h4'; have H5 := Lib.hid h5'; have H6 := Lib.hid h6'; have H7 := Lib.hid h7'
  clear h1' h2' h3' h4' h5' h6' h7' ha' ho'
  go_enter Try.func3, Try.ntmps3
  go_wp2_with fail
  refine (alive_any _).mono ?_
  rintro e w0 ⟨rfl, hb0⟩; obtain ⟨hchb0, hfhb0⟩ := bcell hb0; have hzhb0 := (hb0).size; (try simp at hzhb0)
  go_wp2_with fail
  refine (H1.out _).mono ?_
  rintro e w1 ⟨rfl, hb1⟩; obtain ⟨hchb1, hfhb1⟩ := bcell hb1; have hzhb1 := (hb1).size; (try simp at hzhb1)
  go_wp2_with fail
  refine (H2.out _).mono ?_
  rintro e w2 ⟨rfl, hb2⟩; obtain ⟨hchb2, hfhb2⟩ := bcell hb2; have hzhb2 := (hb2).size; (try simp at hzhb2)
  have : w1.heap.size < (w2).heap.size := (by omega)
  go_wp2_with fail
  refine (H3.out _).mono ?_
  rintro e w3 ⟨rfl, hb3⟩; obtain ⟨hchb3, hfhb3⟩ := bcell hb3; have hzhb3 := (hb3).size; (try simp at hzhb3)
  have : w1.heap.size < (w3).heap.size := (by omega); have : w2.heap.size < (w3).heap.size := (by omega)
  go_wp2_with fail
  refine (H4.out _).mono ?_
  rintro e w4 ⟨rfl, hb4⟩; obtain ⟨hchb4, hfhb4⟩ := bcell hb4; have hzhb4 := (hb4).size; (try simp at hzhb4)
  have : w1.heap.size < (w4).heap.size := (by omega); have : w2.heap.size < (w4).heap.size := (by omega); have : w3.heap.size < (w4).heap.size := (by omega)
  go_wp2_with fail
  refine (H5.out _).mono ?_
  rintro e w5 ⟨rfl, hb5⟩; obtain ⟨hchb5, hfhb5⟩ := bcell hb5; have hzhb5 := (hb5).size; (try simp at hzhb5)
  have : w1.heap.size < (w5).heap.size := (by omega); have : w2.heap.size < (w5).heap.size := (by omega); have : w3.heap.size < (w5).heap.size := (by omega); have : w4.heap.size < (w5).heap.size := (by omega)
  go_wp2_with fail
  refine (H6.out _).mono ?_
  rintro e w6 ⟨rfl, hb6⟩; obtain ⟨hchb6, hfhb6⟩ := bcell hb6; have hzhb6 := (hb6).size; (try simp at hzhb6)
  have : w1.heap.size < (w6).heap.size := (by omega); have : w2.heap.size < (w6).heap.size := (by omega); have : w3.heap.size < (w6).heap.size := (by omega); have : w4.heap.size < (w6).heap.size := (by omega); have : w5.heap.size < (w6).heap.size := (by omega)
  go_wp2_with fail
  refine (H7.out _).mono ?_
  rintro e w7 ⟨rfl, hb7⟩; obtain ⟨hchb7, hfhb7⟩ := bcell hb7; have hzhb7 := (hb7).size; (try simp at hzhb7)
  have : w1.heap.size < (w7).heap.size := (by omega); have : w2.heap.size < (w7).heap.size := (by omega); have : w3.heap.size < (w7).heap.size := (by omega); have : w4.heap.size < (w7).heap.size := (by omega); have : w5.heap.size < (w7).heap.size := (by omega); have : w6.heap.size < (w7).heap.size := (by omega)
  go_wp2_with fail
  have h8 := fun W => holds_any 2 c a o c W
  rw [show Pap.holds ⟨2, c, a, o⟩ c = 0 by simp [Pap.holds]] at h8
  refine (h8 _).mono ?_
  clear h8
  rintro e w8 ⟨rfl, hb8⟩; obtain ⟨hchb8, hfhb8⟩ := bcell hb8; have hzhb8 := (hb8).size; (try simp at hzhb8)
  have : w1.heap.size < (w8).heap.size := (by omega); have : w2.heap.size < (w8).heap.size := (by omega); have : w3.heap.size < (w8).heap.size := (by omega); have : w4.heap.size < (w8).heap.size := (by omega); have : w5.heap.size < (w8).heap.size := (by omega); have : w6.heap.size < (w8).heap.size := (by omega); have : w7.heap.size < (w8).heap.size := (by omega)
  go_wp2_with fail
  go_ret
  refine ⟨rfl, ?_⟩
  (repeat (first | (with_reducible exact Below.refl _ _) | (with_reducible refine Below.setCell ?_ ?hle _; (case hle => first | omega | (simp <;> omega))) | (with_reducible refine Below.alloc ?_ ?hle _; (case hle => first | omega | (simp <;> omega))) | (with_reducible refine Below.drew ?_) | (with_reducible refine below_drewN ?_ _) | (with_reducible refine belows_then ?_ ?hle (by first | exact hb8 | exact hb7 | exact hb6 | exact hb5 | exact hb4 | exact hb3 | exact hb2 | exact hb1 | exact hb0); (case hle => first | omega | (simp <;> omega)))))

theorem again_any (c : Int) (a o : ByteArray) (w : World) (ha : a.size ≤ 140737488351232) (ho : o.size ≤ 140737488351232) :
    Calls Try.prog 3 #[.int .i64 c, .string a, .string o] w fun e w' => e = .returned (.bool true) ∧ Below w.heap.size w w' := by
  by_cases h0 : c < 1
  · exact again_small c a o w ha ho (.inl h0)
  by_cases h1 : a.toList.isEmpty = true
  · exact again_small c a o w ha ho (.inr ⟨by omega, .inl h1⟩)
  by_cases h2 : o.toList.isEmpty = true
  · exact again_small c a o w ha ho (.inr ⟨by omega, .inr ⟨by simpa using h1, .inl h2⟩⟩)
  by_cases h3 : 60 < (a.size : Int) + (o.size : Int)
  · exact again_small c a o w ha ho (.inr ⟨by omega, .inr ⟨by simpa using h1, .inr ⟨by simpa using h2, h3⟩⟩⟩)
  by_cases h4 : (a.toList == o.toList) = true
  · obtain rfl := eq_of _ _ h4
    exact again_own c a w ha (by omega) (by simpa using h1) (by omega)
  · exact again_other c a o w ha ho (by omega) (by simpa using h1) (by simpa using h2) (by simpa using h4) (by omega)
end Go.Proofs.Ytahajbejbijkpaa
