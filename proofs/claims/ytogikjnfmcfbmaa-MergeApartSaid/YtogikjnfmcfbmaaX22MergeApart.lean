/- trial: tell. -/
import Derived.Test.YtogikjnfmcfbmaaX20MergeApart
import Derived.Test.YtogikjnfmcfbmaaX21MergeApart
import Derived.OpenShut
set_option linter.unusedVariables false
set_option linter.unusedSimpArgs false
namespace Go.Proofs.Ytogikjnfmcfbmaa
open Go.RowKit Go.Maps

abbrev pairV (x : Int × Int) : List Value := [.int .i64 x.1, .int .i64 x.2]
theorem two_cells {cs : List Value} (h : cs.length = 2) : ∃ c0 c1, cs = [c0, c1] := by
  match cs, h with
  | [c0, c1], _ => exact ⟨c0, c1, rfl⟩
theorem infoInt : (Try.prog.info? 3).map (fun i => (i.zero, i.size, i.bytes)) = some (some (.int .i64 0), 1, 8) := by kernel_rfl
/-- one element of two whole numbers in a block, as append takes it -/
theorem sl_one2 {P : Program} {t : TypeId} (T : Ty P t (Int × Int)) {w : World} {F : Nat → Prop} {b : Nat} {x : Int × Int} (hn : T.n = 2) (hb : w.heap[b]? = some (.cells #[.int .i64 x.1, .int .i64 x.2] t (0, 0))) (hF : F b) (hr : T.R w F (pairV x) x) :
    Sl T w F (some ⟨b, 0, none⟩) [x] := by
  intro i y hi
  cases i with
  | succ i => simp at hi
  | zero =>
    simp at hi
    subst hi
    refine ⟨_, pairV x, rfl, hF, (Array.getElem?_eq_some_iff.1 hb).1, fun k u hu => ?_, hr⟩
    rw [Nat.zero_mul, Go.Addr.add_add, Nat.zero_add]
    have : (⟨b, 0, none⟩ : Addr).add k = ⟨b, k, none⟩ := by unfold Addr.add; split <;> simp_all
    rw [this, cell_of_row w b k _ t (0, 0) hb]
    simpa using hu

def tellK (s : List (Int × Int)) (k : Int) : List (Int × Int) := if at0 s k == 0 then [] else [(k, at0 s k)]
def tellS (s : List (Int × Int)) : List (Int × Int) := (srt (s.map (·.1))).flatMap (tellK s)
theorem flat_succ {α β : Type} (f : α → List β) (l : List α) (n : Nat) (hn : n < l.length) : (l.take (n + 1)).flatMap f = (l.take n).flatMap f ++ f l[n] := by
  rw [List.take_succ_eq_append_getElem hn, List.flatMap_append]
  simp
theorem flat_len1 {α β : Type} (f : α → List β) (hf : ∀ x, (f x).length ≤ 1) : ∀ (l : List α), (l.flatMap f).length ≤ l.length
  | [] => by simp
  | x :: r => by
    rw [List.flatMap_cons, List.length_append, List.length_cons]
    have := flat_len1 f hf r
    have := hf x
    omega
theorem tellK_len (s : List (Int × Int)) (k : Int) : (tellK s k).length ≤ 1 := by
  unfold tellK
  split <;> simp
theorem tellS_len (s : List (Int × Int)) : (tellS s).length ≤ s.length := by
  unfold tellS
  refine Nat.le_trans (flat_len1 _ (tellK_len s) _) ?_
  rw [srt_len, List.length_map]
  exact Nat.le_refl _
theorem at0_val {s : List (Int × Int)} (h : ∀ x ∈ s, I64 x.2) (k : Int) : I64 (at0 s k) := by
  unfold at0 look
  cases hf : s.find? (fun x => x.1 = k) with
  | none => decide
  | some x => exact h x (List.mem_of_find?_eq_some hf)

end Go.Proofs.Ytogikjnfmcfbmaa


/- trial: Balances, Partners. -/
set_option linter.unusedVariables false
set_option linter.unusedSimpArgs false
namespace Go.Proofs.Ytogikjnfmcfbmaa
open Go.RowKit Go.Maps

def fBal : Flds Try.prog [fld "Account" 3 0 0, fld "Amount" 3 1 8] 0 (Int × Int × Unit) :=
  Flds.cons (f := fld "Account" 3 0 0) tInt rfl (Flds.cons (f := fld "Amount" 3 1 8) tInt rfl (Flds.nil _ _))
/-- journals as they lie in a book: with lines, of which there are few -/
def GoodJ (l : List Jn) : Prop := ∀ x ∈ l, x.lines ≠ [] ∧ x.lines.length ≤ 8
theorem GoodJ.ne {l : List Jn} (h : GoodJ l) : ∀ x ∈ l, x.lines ≠ [] := fun x hx => (h x hx).1
theorem ins_len (s : List (Int × Int)) (k v : Int) : (ins s k v).length ≤ s.length + 1 := by
  induction s with
  | nil => simp [ins]
  | cons x r ih =>
    unfold ins
    split
    · simp
    · simp only [List.length_cons]; omega
theorem sAdd_len (s : List (Int × Int)) (k v : Int) : (sAdd s k v).length ≤ s.length + 1 := ins_len _ _ _
theorem accS_len : ∀ (ls : List Ln) (s : List (Int × Int)), (accS s ls).length ≤ s.length + ls.length
  | [], s => by simp [accS]
  | x :: r, s => by
    have h1 := accS_len r (sAdd s x.acc x.amt)
    have h2 := sAdd_len s x.acc x.amt
    simp only [accS, List.foldl_cons, List.length_cons] at h1 ⊢
    omega
theorem sPar_len (s : List (Int × Int)) (l : Ln) : (sPar s l).length ≤ s.length + 1 := by
  unfold sPar
  split
  · omega
  · exact sAdd_len _ _ _
theorem parS_len : ∀ (ls : List Ln) (s : List (Int × Int)), (parS s ls).length ≤ s.length + ls.length
  | [], s => by simp [parS]
  | x :: r, s => by
    have h1 := parS_len r (sPar s x)
    have h2 := sPar_len s x
    simp only [parS, List.foldl_cons, List.length_cons] at h1 ⊢
    omega
theorem accS_vals : ∀ (ls : List Ln) (s : List (Int × Int)), (∀ x ∈ s, I64 x.2) → ∀ x ∈ accS s ls, I64 x.2
  | [], s, h => h
  | x :: r, s, h => accS_vals r (sAdd s x.acc x.amt) (sAdd_vals h _ _)
theorem sPar_vals {s : List (Int × Int)} (h : ∀ x ∈ s, I64 x.2) (l : Ln) : ∀ x ∈ sPar s l, I64 x.2 := by
  unfold sPar
  split
  · exact h
  · exact sAdd_vals h _ _
theorem parS_vals : ∀ (ls : List Ln) (s : List (Int × Int)), (∀ x ∈ s, I64 x.2) → ∀ x ∈ parS s ls, I64 x.2
  | [], s, h => h
  | x :: r, s, h => parS_vals r (sPar s x) (sPar_vals h x)
theorem flat8 : ∀ {l : List Jn}, GoodJ l → (l.flatMap (·.lines)).length ≤ 8 * l.length
  | [], _ => by simp
  | x :: r, h => by
    have ih := flat8 (l := r) (fun y hy => h y (List.mem_cons_of_mem _ hy))
    have hx := (h x (List.mem_cons_self ..)).2
    rw [List.flatMap_cons, List.length_append, List.length_cons]
    omega
theorem linesOf_len {l : List Jn} (h : GoodJ l) (hl : l.length ≤ 1000) (e f t : Int) : (linesOf l e f t).length ≤ 8000 := by
  unfold linesOf
  have h1 := flat8 (l := l.filter (cnt e f t)) (fun x hx => h x (List.mem_filter.1 hx).1)
  have h2 := List.length_filter_le (cnt e f t) l
  omega

def accR (l : List Jn) (e f t : Int) : List (Int × Int) := tellS (accS [] (linesOf l e f t))
def parR (l : List Jn) (e f t : Int) : List (Int × Int) := tellS (parS [] (linesOf l e f t))
def balT (l : List Jn) (e f t : Int) : List (Int × Int) × Int :=
  if rightB e f t then (if (accR l e f t).all (fun x => fitsB x.2) then (accR l e f t, 0) else ([], 2)) else ([], 1)
theorem mfits_lo (m : Int) (b : Nat) (w : World) (hm : w.heap[b]? = some (.cells #[.int .i64 m] 3 (0, 0))) (hw : (Lit.int .i64 m).wf = true) {x : Bool} (h : fitsB m = x) :
    Calls Try.prog 75 #[.slice (some ⟨b, 0, none⟩) 1 1] w fun e w' => e = .returned (.bool x) ∧ Below w.heap.size w w' :=
  (mfits_is m b w hm hw h).mono fun e w' ⟨h1, h2⟩ => ⟨h1, by rw [h2]; exact Below.refl _ _⟩
def parT (l : List Jn) (e f t : Int) : List (Int × Int) × Int := if (balT l e f t).2 == 0 then (parR l e f t, 0) else ([], (balT l e f t).2)
end Go.Proofs.Ytogikjnfmcfbmaa


/- book: Get. -/
set_option linter.unusedVariables false
set_option linter.unusedSimpArgs false
namespace Go.Proofs.Ytogikjnfmcfbmaa
open Go.RowKit Go.Maps

/-- what a book has under a number; a zero journal: nothing -/
def getJ (l : List Jn) (id : Int) : Jn := (l.find? (fun j => j.id == id)).getD jn0
theorem getJ_no {l : List Jn} {id : Int} (h : hasJ l id = false) : getJ l id = jn0 := by
  unfold getJ
  have : l.find? (fun j => j.id == id) = none := by
    rw [List.find?_eq_none]
    intro x hx
    unfold hasJ at h
    rw [List.any_eq_false] at h
    exact h x hx
  rw [this]
  rfl
theorem getJ_at {l : List Jn} (hi : IncJ l) {k : Nat} (hk : k < l.length) : getJ l l[k].id = l[k] := by
  unfold getJ
  have : l.find? (fun j => j.id == l[k].id) = some l[k] := find_first (fun j : Jn => j.id == l[k].id) l k hk (by
    rw [List.any_eq_false]
    intro x hx
    have := inc_new hi hk x hx
    simp
    omega) (by simp)
  rw [this]
  rfl
theorem jn0_R (w : World) (F : Nat → Prop) : tJn.R w F (jcs jn0 none 0) jn0 :=
  jn_mk jn0 (by decide) (by decide) (by decide) (by decide) (fun i x hx => by simp at hx) (by decide) (by decide) (by rw [line_bytes]; decide)

def GetB (w : World) (x : Jn) (b : Bool) (e : Ending) (w' : World) : Prop :=
  ∃ a c, e = .returned (.tuple #[jnv x a c, .bool b]) ∧ tJn.R w' (fun k => w.heap.size ≤ k ∧ k < w'.heap.size) (jcs x a c) x ∧ Below w.heap.size w w'

set_option maxHeartbeats 8000000 in
set_option maxRecDepth 100000 in
theorem bget_any {w : World} {g : Nat} {a : Option Addr} {cap : Nat} {l : List Jn} {F : Nat → Prop} (h : BookAt w g a cap l F) (hl : l.length ≤ 1000) (hO : OrdJ l) (hne : ∀ x ∈ l, x.lines ≠ []) (id : Int) (hid : I64 id) :
    Calls Try.prog 45 #[.pointer (some ⟨g, 0, none⟩), .int .i64 id] w (GetB w (getJ l id) (hasJ l id)) := by
  have HB := Lib.hid ((Below.refl w.heap.size w).alloc (Nat.le_refl _) (.cells #[.int .i64 0, .int .i64 0, .int .i64 0, .string ⟨#[]⟩, .slice none 0 0, .bool false] 31))
  have HZ := Lib.hid (blk_new w (.cells #[.int .i64 0, .int .i64 0, .int .i64 0, .string ⟨#[]⟩, .slice none 0 0, .bool false] 31))
  have HK := Lib.hid (h.below HB.out)
  have HO := Lib.hid hO
  have HNE := Lib.hid hne
  have HID := Lib.hid hid
  clear h hO hne hid
  generalize hx : getJ l id = x
  generalize hb : hasJ l id = b
  have HX := Lib.hid hx
  have HBB := Lib.hid hb
  clear hx hb
  go_enter Try.func45, Try.ntmps45
  go_wp2_with fail
  refine (find_any HK.out (by omega) HO.out id HID.out).mono ?_
  rintro en w2 ⟨k, rfl, HE, hb⟩
  have HEE := Lib.hid HE
  have HB2 := Lib.hid (belows_then HB.out (by simp) hb)
  have HZ2 := Lib.hid (blk_below HZ.out hb)
  have HK2 := Lib.hid (HK.out.below hb)
  have hz := blk_cells HZ2.out
  have hzf := blk_frz HZ2.out
  have hzl := blk_lt HZ2.out
  have hkc := blk_cells HK2.out.cell
  rw [HBB.out]
  clear HE hb HB HZ HK
  cases b
  · have HXX : Hid (x = jn0) := Lib.hid (by rw [← HX.out]; exact getJ_no HBB.out)
    go_wp2_with fail
    obtain ⟨w4, hw4, h4, hs4, hk4, hb4⟩ := six w2 w.heap.size HZ2.out (.int .i64 0) (.int .i64 0) (.int .i64 0) (.string ⟨#[]⟩) (.slice none 0 0) (.bool false)
    rw [hw4]
    clear hw4
    refine bodyPost_ret (v := .tuple #[jnv jn0 none 0, .bool false]) (results_row_tmp (fn := Try.f45) (p := 4) (ty := 31) rfl _ _ w.heap.size 31 _ (0, 0) _ rfl h4 Try.underlying31 rfl (by kernel_rfl)) rfl ?_
    rw [HXX.out]
    exact ⟨none, 0, rfl, jn0_R _ _, hb4 _ _ HB2.out (Nat.le_refl _)⟩
  · obtain ⟨hk, hkid⟩ := HEE.out.here HBB.out
    have HXX : Hid (x = l[k]) := Lib.hid (by rw [← HX.out, ← hkid]; exact getJ_at HO.out.ord hk)
    obtain ⟨ad, la, lc, rfl, _, hadl, hc0, hc1, hc2, hc3, hc4, hc5, hr⟩ := jn_at HK2.out.sl k hk
    have HR := Lib.hid hr
    have HLN := Lib.hid (HNE.out l[k] (List.getElem_mem hk))
    have hkl : k < l.length := hk
    clear hr hkid
    go_wp2_with fail
    refine (ecopy_any l[k] la lc _ HR.out HLN.out).mono ?_
    rintro en w3 ⟨a3, c3, rfl, hb, hr⟩
    have HZ3 := Lib.hid (blk_below HZ2.out hb)
    have HB3 := Lib.hid (belows_then HB2.out HB2.out.size hb)
    have HR3 := Lib.hid hr
    have HS3 := Lib.hid HB2.out.size
    clear hz hzf hzl hr hb hc0 hc1 hc2 hc3 hc4 hc5 hadl hkc
    have hz := blk_cells HZ3.out
    have hzf := blk_frz HZ3.out
    have hzl := blk_lt HZ3.out
    go_wp2_with fail
    obtain ⟨w4, hw4, h4, hs4, hk4, hb4⟩ := six w3 w.heap.size HZ3.out (.int .i64 l[k].id) (.int .i64 l[k].en) (.int .i64 l[k].pe) (.string l[k].ref) (.slice a3 l[k].lines.length c3) (.bool l[k].void)
    rw [hw4]
    clear hw4
    refine bodyPost_ret (v := .tuple #[jnv l[k] a3 c3, .bool true]) (results_row_tmp (fn := Try.f45) (p := 4) (ty := 31) rfl _ _ w.heap.size 31 _ (0, 0) _ rfl h4 Try.underlying31 rfl (by kernel_rfl)) rfl ?_
    rw [HXX.out]
    refine ⟨a3, c3, rfl, ?_, hb4 _ _ HB3.out (Nat.le_refl _)⟩
    have hlt2 := blk_lt HZ2.out
    refine tJn.mono (fun kk _ hf => (⟨Nat.le_trans HS3.out hf.1, by rw [hs4]; exact hf.2⟩ : w.heap.size ≤ kk ∧ kk < w4.heap.size)) (tJn.keep (fun kk hkk hf => hk4 kk (by have := hf.1; omega)) HR3.out)
end Go.Proofs.Ytogikjnfmcfbmaa
