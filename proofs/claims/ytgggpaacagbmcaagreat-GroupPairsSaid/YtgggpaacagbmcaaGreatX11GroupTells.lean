/- Maps with whole numbers as keys. -/
import Derived.Test.YtgggpaacagbmcaaGreatX02GroupTells
import Derived.Test.YtgggpaacagbmcaaGreatX10GroupTells
import Derived.Test.YtgggpaacagbmcaaGreatX05GroupTells
import Derived.Shelf.AbstractIn
import Derived.Shelf.SlIterI.Keys
import Derived.Shelf.SlIterI.Collect
import Derived.Shelf.SlIterI.Sorted
import Derived.Shelf.SortM.Plain
import Derived.Shelf.SortM.SortNone
set_option linter.unusedVariables false
set_option linter.unusedSimpArgs false
namespace Go.Proofs.YtgggpaacagbmcaaGreat
open Go.RowKit Go.Maps

def mInt : MK Tryz.prog 3 Int where
  K := int_keyed Tryz.underlying3
  ek := fun k => .int .i64 k
  ok := fun k => I64 k
  key := fun k h => ⟨_, keyOf_int_mk Tryz.underlying3 h⟩
  inj := by
    intro a b h
    simpa using h
theorem zeroI (w : World) : (zeroValue 3).run Tryz.prog w = .ok (.int .i64 0) w := by kernel_rfl
/-- what stands under a key: 0, if nothing -/
def at0 (s : List (Int × Int)) (k : Int) : Int := (look s k).getD 0
theorem lookI {T : TypeId} {w : World} {b : Nat} {s : List (Int × Int)} (h : MapIs mInt (Value.int .i64) w b s) (ht : Tryz.prog.underlying T = some (.map 3 3)) {k : Int} (hk : I64 k) (W : World) (hW : W.heap[b]? = w.heap[b]?) :
    (Instr.lookup T (.map (some b)) (.int .i64 k) false).run Tryz.prog W = .ok (.int .i64 (at0 s k)) W := by
  have := (h.keep (w' := W) hW).lookup ht (k := k) hk (zeroI W)
  rw [show mInt.ek k = .int .i64 k from rfl] at this
  rw [this]
  unfold at0
  cases look s k <;> rfl
theorem wrap64_wf (n : Int) : I64 (wrap64 n) := by
  unfold I64 Lit.wf wrap64
  simp [IntKind.min, IntKind.max, IntKind.bits, IntKind.signed]
  omega
/-- an amount added under a key -/
def sAdd (s : List (Int × Int)) (k v : Int) : List (Int × Int) := ins s k (wrap64 (at0 s k + v))
theorem sAdd_vals {s : List (Int × Int)} (h : ∀ x ∈ s, I64 x.2) (k v : Int) : ∀ x ∈ sAdd s k v, I64 x.2 := by
  intro x hx
  rcases mem_ins hx with rfl | hx
  · exact wrap64_wf _
  · exact h x hx
end Go.Proofs.YtgggpaacagbmcaaGreat


/- book: All, Get. -/
set_option linter.unusedVariables false
set_option linter.unusedSimpArgs false
namespace Go.Proofs.YtgggpaacagbmcaaGreat
open Go.RowKit Go.Maps

theorem app_cells {w2 : World} {x : Jn} {la : Option Addr} {lc : Nat} {base B : Nat} {F : Nat → Prop} {vo : Value} {O : List Jn} (hr : tJn.R w2 (fun k => B ≤ k ∧ k < w2.heap.size) (jcs x la lc) x) (hB : ∀ k, vo.ownBlock = some k → k < B) (hF : ∀ k, B ≤ k → F k) (o : Obj)
    (ho : o = .cells #[.int .i64 x.id, .int .i64 x.en, .int .i64 x.pe, .string x.ref, .slice la x.lines.length lc, .bool x.void] 81) :
    ∀ i y, [x][i]? = some y → ∃ ces, (∀ k u, ces[k]? = some u → (w2.alloc o).cell? (((⟨w2.heap.size, 0, none⟩ : Addr).add (i * tJn.n)).add k) = some u) ∧ tJn.R (w2.alloc o) (fun k => F k ∧ some k ≠ vo.ownBlock ∧ k < (w2.alloc o).heap.size) ces y := by
  subst ho
  refine cells_oneJ (a := la) (cap := lc) (blk_new w2 _) ?_
  refine tJn.mono (fun k hk hf => ⟨hF k hf.1, fun e => ?_, hk⟩) (tJn.keep (fun k hk _ => Below.heap_alloc w2 _ k hk) hr)
  have := hB _ e.symm
  have hf' := hf.1
  omega

def AllPostJ (w : World) (l : List Jn) (e : Ending) (w' : World) : Prop :=
  ∃ v, e = .returned v ∧ OwnF tJn w' w.heap.size (fun k => w.heap.size ≤ k) v l ∧ Below w.heap.size w w'

set_option maxHeartbeats 8000000 in
set_option maxRecDepth 100000 in
theorem ball_any {w : World} {b : Nat} {a : Option Addr} {cap : Nat} {l : List Jn} {F : Nat → Prop} (h : BookAt w b a cap l F) (hl : l.length ≤ 1000) (hne : ∀ x ∈ l, x.lines ≠ []) :
    Calls Tryz.prog 78 #[.pointer (some ⟨b, 0, none⟩)] w (AllPostJ w l) := by
  have hcb := blk_cells h.cell
  have HS := Lib.hid h.sl
  have HNE := Lib.hid hne
  clear h hne
  obtain ⟨i0, hi, hz0, hz1, hz2⟩ := info_parts infoJ
  go_enter Tryz.func78, Tryz.ntmps78
  go_wp2_with fail
  clear hcb
  go_loopw [3, 13] (fun vo vi wr => ∃ (n : Nat) (vx : Value), vx = vo ∧ n ≤ l.length ∧ vi = .int .i64 n ∧ OwnF tJn wr w.heap.size (fun k => w.heap.size ≤ k) vx (l.take n) ∧ Below w.heap.size w wr) (fun _ vi _ => l.length - (intOf vi).toNat)
  case atStart => exact ⟨0, _, rfl, Nat.zero_le _, rfl, OwnF.nil _ _ _, Below.refl _ _⟩
  case round =>
    obtain ⟨n, vo, rfl, hn, rfl, ho, hb⟩ := hrel
    have HO := Lib.hid ho
    have HB1 := Lib.hid hb
    clear ho hb
    by_cases hlt : n < l.length
    · obtain ⟨ad, la, lc, rfl, _, hadl, hc0, hc1, hc2, hc3, hc4, hc5, hr⟩ := jn_at (Sl.keep (fun k hk _ => HB1.out.block k hk) HS.out) n hlt
      have HR := Lib.hid (tJn.keep (w' := wr.alloc (.cells #[.int .i64 l[n].id, .int .i64 l[n].en, .int .i64 l[n].pe, .string l[n].ref, .slice la l[n].lines.length lc, .bool l[n].void] 81)) (fun k hk _ => Below.heap_alloc wr _ k hk) hr)
      have HBA := Lib.hid (HB1.out.alloc HB1.out.size (.cells #[.int .i64 l[n].id, .int .i64 l[n].en, .int .i64 l[n].pe, .string l[n].ref, .slice la l[n].lines.length lc, .bool l[n].void] 81))
      have HOA := Lib.hid (HO.out.alloc (.cells #[.int .i64 l[n].id, .int .i64 l[n].en, .int .i64 l[n].pe, .string l[n].ref, .slice la l[n].lines.length lc, .bool l[n].void] 81))
      have HLN := Lib.hid (HNE.out l[n] (List.getElem_mem hlt))
      have hlen : (l.take n).length + [l[n]].length ≤ 1001 := by rw [List.length_take]; simp only [List.length_cons, List.length_nil]; omega
      clear hr
      go_wp2_with fail
      refine (ecopy_any l[n] la lc _ HR.out HLN.out).mono ?_
      rintro e w2 ⟨a2, c2, rfl, hb, hr⟩
      have HB2 := Lib.hid (belows_then HBA.out HBA.out.size hb)
      have HO2 := Lib.hid ((HOA.out.below hb).alloc (.cells #[.int .i64 l[n].id, .int .i64 l[n].en, .int .i64 l[n].pe, .string l[n].ref, .slice a2 l[n].lines.length c2, .bool l[n].void] 81))
      have HX := Lib.hid (app_cells (F := fun k => w.heap.size ≤ k) (base := 0) (O := []) (vo := vo) hr (fun k e => (HOA.out.lt k e).2) (fun k hk => Nat.le_trans HBA.out.size hk) _ rfl)
      clear hb hr hc0 hc1 hc2 hc3 hc4 hc5 hadl
      go_wp2_with (at_builtin; refine wp_appF (T := tJn) rfl _ _ 23 rfl i0 (.agg #[.int .i64 0, .int .i64 0, .int .i64 0, .string ⟨#[]⟩, .slice none 0 0, .bool false]) 72 Tryz.underlying23 hi hz0 hz1 hz2 rfl (by decide) jn_one w.heap.size (fun k => w.heap.size ≤ k) vo (l.take n) rfl HO2.out ⟨w2.heap.size, 0, none⟩ 1 [l[n]] rfl HX.out (by unfold maxLen; omega) (by omega) (by have := HB2.out.size; simp; omega) ?_; intro v3 w3 hown hg hnil hat; have HO3 := Lib.hid hown; have HB3 := Lib.hid (Below.grown (Below.alloc HB2.out HB2.out.size _) hg (Nat.le_trans HB2.out.size (by simp)) (fun k e => (HO2.out.lt k e).1)); clear hown hg hnil hat)
      go_roundw
      case rel => exact ⟨n + 1, _, rfl, by omega, by go_num, by rw [List.take_succ_eq_append_getElem hlt]; exact HO3.out, HB3.out⟩
      case measure => simp [intOf]; omega
    · have HL : Hid (l.take n = l) := Lib.hid (take_all hn hlt)
      go_wp2_with fail
      go_ret
      exact ⟨vo, rfl, by have := HO.out; rwa [HL.out] at this, HB1.out⟩
end Go.Proofs.YtgggpaacagbmcaaGreat


/- trial: right, counts, account, partner. -/
set_option linter.unusedVariables false
set_option linter.unusedSimpArgs false
namespace Go.Proofs.YtgggpaacagbmcaaGreat
open Go.RowKit Go.Maps

theorem sl_two (x y : Int) (b : Nat) (W : World) (hb : W.heap[b]? = some (.cells #[.int .i64 x, .int .i64 y] 3 (0, 0))) (wx : I64 x) (wy : I64 y) : Sl tInt W (fun _ => True) (some ⟨b, 0, none⟩) [x, y] := by
  intro i u hi
  have hlt : b < W.heap.size := (Array.getElem?_eq_some_iff.1 hb).1
  have hcell := fun o => cell_of_row W b o #[.int .i64 x, .int .i64 y] 3 (0, 0) hb
  match i, hi with
  | 0, hi =>
    simp at hi; subst hi
    refine ⟨_, [.int .i64 x], rfl, trivial, hlt, fun j v hv => ?_, rfl, wx⟩
    cases j with
    | zero => simp at hv; subst hv; exact hcell 0
    | succ j => simp at hv
  | 1, hi =>
    simp at hi; subst hi
    refine ⟨_, [.int .i64 y], rfl, trivial, hlt, fun j v hv => ?_, rfl, wy⟩
    cases j with
    | zero => simp at hv; subst hv; exact hcell 1
    | succ j => simp at hv
theorem valid2 (x y : Int) (b : Nat) (W : World) (hb : W.heap[b]? = some (.cells #[.int .i64 x, .int .i64 y] 3 (0, 0))) (wx : I64 x) (wy : I64 y) {r : Bool} (hr : (monthOk x && monthOk y) = r) :
    Calls Tryz.prog 28 #[.slice (some ⟨b, 0, none⟩) 2 2] W fun e w' => e = .returned (.bool r) ∧ Below W.heap.size W w' := by
  have := term_valid (some ⟨b, 0, none⟩) 2 [x, y] W (by simp only [List.length_cons, List.length_nil]; omega) (sl_two x y b W hb wx wy)
  simp only [List.all_cons, List.all_nil, Bool.and_true] at this
  rwa [hr] at this

def rightB (e f t : Int) : Bool := entB e && ((monthOk f && monthOk t) && decide (f ≤ t))
theorem right_cases {e f t : Int} {b : Bool} (h : rightB e f t = b) : (b = false ∧ (e < 1 ∨ 1 ≤ e ∧ (9 < e ∨ e ≤ 9 ∧ ((monthOk f && monthOk t) = false ∨ (monthOk f && monthOk t) = true ∧ decide (f ≤ t) = false)))) ∨
    (b = true ∧ 1 ≤ e ∧ e ≤ 9 ∧ (monthOk f && monthOk t) = true ∧ f ≤ t) := by
  subst h
  unfold rightB entB
  cases (monthOk f && monthOk t) with
  | false => simp only [Bool.false_and, Bool.and_false, true_and, Bool.false_eq_true, false_and, true_or, and_true, or_false]; omega
  | true =>
    by_cases h1 : 1 ≤ e <;> by_cases h2 : e ≤ 9 <;> by_cases h3 : f ≤ t <;> simp [h1, h2, h3] <;> omega

abbrev tofv (e f t : Int) : Value := .agg #[.int .i64 e, .int .i64 f, .int .i64 t]
/-- does a journal count? -/
def cnt (e f t : Int) (j : Jn) : Bool := !j.void && (j.en == e && (decide (f ≤ j.pe) && decide (j.pe ≤ t)))
theorem cnt_cases {e f t : Int} {j : Jn} {b : Bool} (h : cnt e f t j = b) : (b = false ∧ (j.void = true ∨ j.void = false ∧ ((j.en == e) = false ∨ (j.en == e) = true ∧ (decide (f ≤ j.pe) = false ∨ decide (f ≤ j.pe) = true ∧ decide (j.pe ≤ t) = false)))) ∨
    (b = true ∧ j.void = false ∧ (j.en == e) = true ∧ f ≤ j.pe ∧ j.pe ≤ t) := by
  subst h
  unfold cnt
  cases j.void <;> cases j.en == e <;> by_cases h3 : f ≤ j.pe <;> by_cases h4 : j.pe ≤ t <;> simp [h3, h4] <;> omega
def AddPost (w : World) (b : Nat) (s' : List (Int × Int)) (e : Ending) (w' : World) : Prop :=
  e = .returned (.tuple #[]) ∧ MapIs mInt (Value.int .i64) w' b s' ∧ But (· = b) w w'

def sPar (s : List (Int × Int)) (l : Ln) : List (Int × Int) := if l.par == 0 then s else sAdd s l.par l.amt
end Go.Proofs.YtgggpaacagbmcaaGreat


/- trial: each, of. -/
set_option linter.unusedVariables false
set_option linter.unusedSimpArgs false
namespace Go.Proofs.YtgggpaacagbmcaaGreat
open Go.RowKit Go.Maps

def linesOf (l : List Jn) (e f t : Int) : List Ln := (l.filter (cnt e f t)).flatMap (·.lines)
theorem linesOf_succ (e f t : Int) (l : List Jn) (n : Nat) (hn : n < l.length) : linesOf (l.take (n + 1)) e f t = linesOf (l.take n) e f t ++ (if cnt e f t l[n] then l[n].lines else []) := by
  unfold linesOf
  rw [List.take_succ_eq_append_getElem hn, List.filter_append, List.flatMap_append]
  cases h : cnt e f t l[n] <;> simp [h]
def accS (s : List (Int × Int)) (ls : List Ln) : List (Int × Int) := ls.foldl (fun s x => sAdd s x.acc x.amt) s
def parS (s : List (Int × Int)) (ls : List Ln) : List (Int × Int) := ls.foldl sPar s
theorem BookAt.same {w w' : World} {b : Nat} {a : Option Addr} {cap : Nat} {l : List Jn} {F : Nat → Prop} (h : BookAt w b a cap l F) (hw : w'.heap = w.heap) : BookAt w' b a cap l F :=
  ⟨by rw [hw]; exact h.cell, Sl.keep (fun k hk _ => by rw [hw]) h.sl, h.len, h.cap⟩
theorem But.toBelow {F : Nat → Prop} {B : Nat} {w w1 w2 : World} (hb : Below B w w1) (h : But F w1 w2) (hF : ∀ k, F k → B ≤ k) (hB : B ≤ w1.heap.size) : Below B w w2 :=
  ⟨h.os.trans hb.os, h.tape.trans hb.tape, h.output.trans hb.output, Nat.le_trans hb.size h.size, fun k hk => (h.block k (Nat.lt_of_lt_of_le hk hB) (fun hf => by have := hF k hf; omega)).trans (hb.block k hk)⟩

def SumPost (w : World) (s : List (Int × Int)) (e : Ending) (w' : World) : Prop := ∃ bm, e = .returned (.map (some bm)) ∧ MapIs mInt (Value.int .i64) w' bm s ∧ Below w.heap.size w w'
end Go.Proofs.YtgggpaacagbmcaaGreat


/- slices.Sorted of maps.Keys at whole numbers. -/
set_option linter.unusedVariables false
set_option linter.unusedSimpArgs false
namespace Go.Proofs.YtgggpaacagbmcaaGreat
open Go.RowKit Go.Maps Go.Sort Go.Shelf Go.Proofs

def laySorted_ren : Go.Shelf.Ren := ⟨fun | 6 => 133 | 8 => 159 | 9 => 160 | 11 => 184 | 13 => 151 | 12 => 185 | 23 => 174 | 24 => 175 | 14 => 196 | 15 => 197 | 16 => 198 | 17 => 199 | 18 => 200 | 19 => 201 | 20 => 202 | 21 => 203 | 22 => 204 | 25 => 207 | 26 => 188 | 27 => 189 | 28 => 208 | 29 => 209 | 30 => 210 | 31 => 211 | n => n, fun | 26 => 3 | 28 => 206 | 24 => 94 | 0 => 0 | 3 => 3 | 37 => 229 | 48 => 256 | 50 => 210 | 4 => 4 | 40 => 250 | 39 => 249 | 45 => 234 | 5 => 5 | 9 => 9 | 51 => 266 | 55 => 155 | 57 => 278 | 58 => 279 | 33 => 55 | n => n, fun | n => n⟩
theorem laySorted : Go.Proofs.SlLaysZI.n6 Tryz.prog laySorted_ren := {
  mixed := by kernel_rfl
  f6 := ⟨Tryz.f133.name, by decide, Tryz.func133.trans (congrArg some (by kernel_rfl))⟩
  f8 := ⟨Tryz.f159.name, by decide, Tryz.func159.trans (congrArg some (by kernel_rfl))⟩
  f11 := ⟨Tryz.f184.name, by decide, Tryz.func184.trans (congrArg some (by kernel_rfl))⟩
  t0 := Tryz.underlying0
  a0 := Tryz.isAgg0
  z0 := Tryz.sizeOf0
  v0 := Tryz.zeroValue0
  t24 := Tryz.underlying94
  a24 := Tryz.isAgg94
  z24 := Tryz.sizeOf94
  v24 := Tryz.zeroValue94
  t26 := Tryz.underlying3
  a26 := Tryz.isAgg3
  z26 := Tryz.sizeOf3
  v26 := Tryz.zeroValue3
  t28 := Tryz.underlying206
  a28 := Tryz.isAgg206
  z28 := Tryz.sizeOf206
  v28 := Tryz.zeroValue206
  i26 := by kernel_rfl }
def laySort_ren : Go.Shelf.Ren := ⟨fun | 5 => 160 | 8 => 151 | 7 => 185 | 19 => 174 | 20 => 175 | 10 => 196 | 11 => 197 | 12 => 198 | 13 => 199 | 14 => 200 | 15 => 201 | 16 => 202 | 17 => 203 | 18 => 204 | 30 => 207 | 31 => 188 | 32 => 189 | 33 => 208 | 34 => 209 | 35 => 210 | 40 => 211 | n => n, fun | 23 => 94 | 25 => 3 | 3 => 3 | 32 => 229 | 22 => 94 | 0 => 0 | 44 => 256 | 46 => 210 | 4 => 4 | 36 => 250 | 35 => 249 | 41 => 234 | 5 => 5 | 9 => 9 | 53 => 266 | 57 => 155 | 63 => 278 | 64 => 279 | n => n, fun | n => n⟩
theorem laySort : Go.Proofs.SlLaysM.n5 Tryz.prog laySort_ren := {
  mixed := by kernel_rfl
  f5 := ⟨Tryz.f160.name, by decide, Tryz.func160.trans (congrArg some (by kernel_rfl))⟩
  f7 := ⟨Tryz.f185.name, by decide, Tryz.func185.trans (congrArg some (by kernel_rfl))⟩
  f8 := Tryz.func151.trans (congrArg some (by kernel_rfl))
  f10 := ⟨Tryz.f196.name, by decide, Tryz.func196.trans (congrArg some (by kernel_rfl))⟩
  f11 := ⟨Tryz.f197.name, by decide, Tryz.func197.trans (congrArg some (by kernel_rfl))⟩
  f12 := ⟨Tryz.f198.name, by decide, Tryz.func198.trans (congrArg some (by kernel_rfl))⟩
  f13 := ⟨Tryz.f199.name, by decide, Tryz.func199.trans (congrArg some (by kernel_rfl))⟩
  f14 := ⟨Tryz.f200.name, by decide, Tryz.func200.trans (congrArg some (by kernel_rfl))⟩
  f15 := ⟨Tryz.f201.name, by decide, Tryz.func201.trans (congrArg some (by kernel_rfl))⟩
  f16 := ⟨Tryz.f202.name, by decide, Tryz.func202.trans (congrArg some (by kernel_rfl))⟩
  f17 := ⟨Tryz.f203.name, by decide, Tryz.func203.trans (congrArg some (by kernel_rfl))⟩
  f18 := ⟨Tryz.f204.name, by decide, Tryz.func204.trans (congrArg some (by kernel_rfl))⟩
  f19 := Tryz.func174.trans (congrArg some (by kernel_rfl))
  f20 := Tryz.func175.trans (congrArg some (by kernel_rfl))
  f30 := ⟨Tryz.f207.name, by decide, Tryz.func207.trans (congrArg some (by kernel_rfl))⟩
  f31 := Tryz.func188.trans (congrArg some (by kernel_rfl))
  f32 := Tryz.func189.trans (congrArg some (by kernel_rfl))
  f33 := ⟨Tryz.f208.name, by decide, Tryz.func208.trans (congrArg some (by kernel_rfl))⟩
  f34 := ⟨Tryz.f209.name, by decide, Tryz.func209.trans (congrArg some (by kernel_rfl))⟩
  f35 := ⟨Tryz.f210.name, by decide, Tryz.func210.trans (congrArg some (by kernel_rfl))⟩
  f40 := ⟨Tryz.f211.name, by decide, Tryz.func211.trans (congrArg some (by kernel_rfl))⟩
  t0 := Tryz.underlying0
  a0 := Tryz.isAgg0
  z0 := Tryz.sizeOf0
  v0 := Tryz.zeroValue0
  t3 := Tryz.underlying3
  a3 := Tryz.isAgg3
  z3 := Tryz.sizeOf3
  v3 := Tryz.zeroValue3
  t4 := Tryz.underlying4
  a4 := Tryz.isAgg4
  z4 := Tryz.sizeOf4
  v4 := Tryz.zeroValue4
  t5 := Tryz.underlying5
  a5 := Tryz.isAgg5
  z5 := Tryz.sizeOf5
  v5 := Tryz.zeroValue5
  t9 := Tryz.underlying9
  a9 := Tryz.isAgg9
  z9 := Tryz.sizeOf9
  v9 := Tryz.zeroValue9
  t22 := Tryz.underlying94
  a22 := Tryz.isAgg94
  z22 := Tryz.sizeOf94
  v22 := Tryz.zeroValue94
  t23 := Tryz.underlying94
  a23 := Tryz.isAgg94
  z23 := Tryz.sizeOf94
  v23 := Tryz.zeroValue94
  t25 := Tryz.underlying3
  a25 := Tryz.isAgg3
  z25 := Tryz.sizeOf3
  v25 := Tryz.zeroValue3
  t32 := Tryz.underlying229
  a32 := Tryz.isAgg229
  z32 := Tryz.sizeOf229
  v32 := Tryz.zeroValue229
  t35 := Tryz.underlying249
  a35 := Tryz.isAgg249
  z35 := Tryz.sizeOf249
  v35 := Tryz.zeroValue249
  t36 := Tryz.underlying250
  a36 := Tryz.isAgg250
  z36 := Tryz.sizeOf250
  v36 := Tryz.zeroValue250
  t41 := Tryz.underlying234
  a41 := Tryz.isAgg234
  z41 := Tryz.sizeOf234
  v41 := Tryz.zeroValue234
  t44 := Tryz.underlying256
  a44 := Tryz.isAgg256
  z44 := Tryz.sizeOf256
  v44 := Tryz.zeroValue256
  t46 := Tryz.underlying210
  a46 := Tryz.isAgg210
  z46 := Tryz.sizeOf210
  v46 := Tryz.zeroValue210
  t53 := Tryz.underlying266
  a53 := Tryz.isAgg266
  z53 := Tryz.sizeOf266
  v53 := Tryz.zeroValue266
  t57 := Tryz.underlying155
  a57 := Tryz.isAgg155
  z57 := Tryz.sizeOf155
  v57 := Tryz.zeroValue155
  t63 := Tryz.underlying278
  a63 := Tryz.isAgg278
  z63 := Tryz.sizeOf278
  v63 := Tryz.zeroValue278
  t64 := Tryz.underlying279
  a64 := Tryz.isAgg279
  z64 := Tryz.sizeOf279
  v64 := Tryz.zeroValue279 }

theorem sortsI (m : Nat) : AnyZI.SortsIn Tryz.prog laySorted_ren Fence.wide m :=
  ⟨fun blk off cap ss W hH hblk hsz => callsIn_wide.2 (AnyM.slices_Sort_int laySort blk off cap ss W hH hblk hsz),
   fun p cap W => callsIn_wide.2 (AnyM.slices_Sort_int_none laySort p cap W)⟩

def srt (l : List Int) : List Int := l.mergeSort (fun x y => decide (x ≤ y))
theorem srt_perm {a b : List Int} (h : a.Perm b) : srt a = srt b := by
  unfold srt
  have tr : ∀ (x y z : Int), decide (x ≤ y) = true → decide (y ≤ z) = true → decide (x ≤ z) = true := by
    intro x y z h1 h2
    simp at *
    omega
  have to : ∀ (x y : Int), (decide (x ≤ y) || decide (y ≤ x)) = true := by
    intro x y
    simp
    omega
  refine List.Perm.eq_of_pairwise (le := fun a b => decide (a ≤ b) = true) (fun a b _ _ h1 h2 => ?_) (List.pairwise_mergeSort tr to a) (List.pairwise_mergeSort tr to b) (((List.mergeSort_perm a _).trans h).trans (List.mergeSort_perm b _).symm)
  simp at h1 h2
  omega
theorem srt_mem {l : List Int} {x : Int} : x ∈ srt l ↔ x ∈ l := (List.mergeSort_perm l _).mem_iff
theorem srt_len (l : List Int) : (srt l).length = l.length := (List.mergeSort_perm l _).length_eq

theorem own_ints {w : World} {base : Nat} {v : Value} {ks : List Int} (h : w.ownsRow base 3 1 v ks.length (ks.map encZ)) (hk : ∀ k ∈ ks, I64 k) : OwnL tInt w base v ks := by
  refine ⟨ks.map fun k => [encZ k], ?_, by simp, ?_, ?_⟩
  · have flat1 : ∀ (l : List Int), (l.map fun k => [encZ k]).flatten = l.map encZ := by
      intro l
      induction l with
      | nil => rfl
      | cons x r ih => simp [ih]
    rw [flat1]
    exact h
  · intro c hc
    obtain ⟨k, _, rfl⟩ := List.mem_map.1 hc
    rfl
  · intro i c x hi hx
    rw [List.getElem?_map, hx] at hi
    simp at hi
    subst hi
    exact ⟨rfl, hk x (List.mem_of_getElem? hx)⟩

def SrtPost (w : World) (keys : List Int) (e : Ending) (w' : World) : Prop := ∃ v, e = .returned v ∧ OwnL tInt w' w.heap.size v (srt keys) ∧ Below w.heap.size w w'
theorem sorted_is (g : Nat) (lb : Array Value) (eg : ∀ args w, (callFunc g args).run Tryz.prog w = .ok (.enter g args) w) (keys : List Int) (hk : ∀ k ∈ keys, I64 k) (hl : keys.length ≤ 1000000) (w : World)
    (hseq : SeqGives Fence.wide 2 Tryz.prog g lb encZ (fun ss => ss.Perm keys) keys.length w) :
    Calls Tryz.prog 133 #[.func (.func g) #[] lb] w (SrtPost w keys) := by
  have cS := AnyZI.sorted_in laySorted Fence.wide 5 trivial trivial trivial trivial rfl (by omega) (sortsI _) (enters_of Tryz.func160 (by kernel_rfl) rfl) g lb trivial eg _ _ (by unfold maxLen; omega) (by omega) _ hseq
  change CallsIn _ _ Tryz.prog 133 _ _ _ at cS
  refine ((callsIn_wide (n := 5)).1 cS).mono ?_
  rintro e w' ⟨v, ss, rfl, hS, hrow, hnil, hb⟩
  refine ⟨v, rfl, own_ints ?_ ?_, hb⟩
  · rw [srt_len, ← hS.length_eq, ← srt_perm hS]
    exact hrow
  · intro k hk'
    exact hk k (srt_mem.1 hk')

end Go.Proofs.YtgggpaacagbmcaaGreat
