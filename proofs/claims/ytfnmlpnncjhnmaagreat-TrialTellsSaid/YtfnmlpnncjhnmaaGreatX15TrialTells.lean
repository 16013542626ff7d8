/- slices.Sorted of maps.Keys at whole numbers. -/
import Derived.Test.YtfnmlpnncjhnmaaGreatX03TrialTells
import Derived.Test.YtfnmlpnncjhnmaaGreatX07TrialTells
import Derived.Shelf.AbstractIn
import Derived.Shelf.SlIterI.Keys
import Derived.Shelf.SlIterI.Collect
import Derived.Shelf.SlIterI.Sorted
import Derived.Shelf.SortM.Plain
import Derived.Shelf.SortM.SortNone
import Derived.Test.YtfnmlpnncjhnmaaGreatX14TrialTells
import Derived.OpenShut
set_option linter.unusedVariables false
set_option linter.unusedSimpArgs false
namespace Go.Proofs.YtfnmlpnncjhnmaaGreat
open Go.RowKit Go.Maps Go.Sort Go.Shelf Go.Proofs

def laySorted_ren : Go.Shelf.Ren := ⟨fun | 6 => 117 | 8 => 162 | 9 => 163 | 11 => 176 | 13 => 178 | 12 => 177 | 23 => 189 | 24 => 190 | 14 => 180 | 15 => 181 | 16 => 182 | 17 => 183 | 18 => 184 | 19 => 185 | 20 => 186 | 21 => 187 | 22 => 188 | 25 => 191 | 26 => 192 | 27 => 193 | 28 => 194 | 29 => 195 | 30 => 196 | 31 => 197 | n => n, fun | 26 => 3 | 28 => 166 | 24 => 71 | 0 => 0 | 3 => 3 | 37 => 229 | 48 => 248 | 50 => 250 | 4 => 4 | 40 => 242 | 39 => 241 | 45 => 148 | 5 => 5 | 9 => 9 | 51 => 251 | 55 => 139 | 57 => 256 | 58 => 257 | 33 => 81 | n => n, fun | n => n⟩
theorem laySorted : Go.Proofs.SlLaysZI.n6 Tryz.prog laySorted_ren := {
  mixed := by kernel_rfl
  f6 := ⟨Tryz.f117.name, by decide, Tryz.func117.trans (congrArg some (by kernel_rfl))⟩
  f8 := ⟨Tryz.f162.name, by decide, Tryz.func162.trans (congrArg some (by kernel_rfl))⟩
  f11 := ⟨Tryz.f176.name, by decide, Tryz.func176.trans (congrArg some (by kernel_rfl))⟩
  t0 := Tryz.underlying0
  a0 := Tryz.isAgg0
  z0 := Tryz.sizeOf0
  v0 := Tryz.zeroValue0
  t24 := Tryz.underlying71
  a24 := Tryz.isAgg71
  z24 := Tryz.sizeOf71
  v24 := Tryz.zeroValue71
  t26 := Tryz.underlying3
  a26 := Tryz.isAgg3
  z26 := Tryz.sizeOf3
  v26 := Tryz.zeroValue3
  t28 := Tryz.underlying166
  a28 := Tryz.isAgg166
  z28 := Tryz.sizeOf166
  v28 := Tryz.zeroValue166
  i26 := by kernel_rfl }
def laySort_ren : Go.Shelf.Ren := ⟨fun | 5 => 163 | 8 => 178 | 7 => 177 | 19 => 189 | 20 => 190 | 10 => 180 | 11 => 181 | 12 => 182 | 13 => 183 | 14 => 184 | 15 => 185 | 16 => 186 | 17 => 187 | 18 => 188 | 30 => 191 | 31 => 192 | 32 => 193 | 33 => 194 | 34 => 195 | 35 => 196 | 40 => 197 | n => n, fun | 23 => 71 | 25 => 3 | 3 => 3 | 32 => 229 | 22 => 71 | 0 => 0 | 44 => 248 | 46 => 250 | 4 => 4 | 36 => 242 | 35 => 241 | 41 => 148 | 5 => 5 | 9 => 9 | 53 => 251 | 57 => 139 | 63 => 256 | 64 => 257 | n => n, fun | n => n⟩
theorem laySort : Go.Proofs.SlLaysM.n5 Tryz.prog laySort_ren := {
  mixed := by kernel_rfl
  f5 := ⟨Tryz.f163.name, by decide, Tryz.func163.trans (congrArg some (by kernel_rfl))⟩
  f7 := ⟨Tryz.f177.name, by decide, Tryz.func177.trans (congrArg some (by kernel_rfl))⟩
  f8 := Tryz.func178.trans (congrArg some (by kernel_rfl))
  f10 := ⟨Tryz.f180.name, by decide, Tryz.func180.trans (congrArg some (by kernel_rfl))⟩
  f11 := ⟨Tryz.f181.name, by decide, Tryz.func181.trans (congrArg some (by kernel_rfl))⟩
  f12 := ⟨Tryz.f182.name, by decide, Tryz.func182.trans (congrArg some (by kernel_rfl))⟩
  f13 := ⟨Tryz.f183.name, by decide, Tryz.func183.trans (congrArg some (by kernel_rfl))⟩
  f14 := ⟨Tryz.f184.name, by decide, Tryz.func184.trans (congrArg some (by kernel_rfl))⟩
  f15 := ⟨Tryz.f185.name, by decide, Tryz.func185.trans (congrArg some (by kernel_rfl))⟩
  f16 := ⟨Tryz.f186.name, by decide, Tryz.func186.trans (congrArg some (by kernel_rfl))⟩
  f17 := ⟨Tryz.f187.name, by decide, Tryz.func187.trans (congrArg some (by kernel_rfl))⟩
  f18 := ⟨Tryz.f188.name, by decide, Tryz.func188.trans (congrArg some (by kernel_rfl))⟩
  f19 := Tryz.func189.trans (congrArg some (by kernel_rfl))
  f20 := Tryz.func190.trans (congrArg some (by kernel_rfl))
  f30 := ⟨Tryz.f191.name, by decide, Tryz.func191.trans (congrArg some (by kernel_rfl))⟩
  f31 := Tryz.func192.trans (congrArg some (by kernel_rfl))
  f32 := Tryz.func193.trans (congrArg some (by kernel_rfl))
  f33 := ⟨Tryz.f194.name, by decide, Tryz.func194.trans (congrArg some (by kernel_rfl))⟩
  f34 := ⟨Tryz.f195.name, by decide, Tryz.func195.trans (congrArg some (by kernel_rfl))⟩
  f35 := ⟨Tryz.f196.name, by decide, Tryz.func196.trans (congrArg some (by kernel_rfl))⟩
  f40 := ⟨Tryz.f197.name, by decide, Tryz.func197.trans (congrArg some (by kernel_rfl))⟩
  t0 := Tryz.underlying0
  a0 := Tryz.isAgg0
  z0 := Tryz.sizeOf0
  v0 := Tryz.zeroValue0
  t3 := Tryz.underlying3
  a3 := Tryz.isAgg3
  z3 := Tryz.sizeOf3
  v3 := Tryz.zeroValue3
  t4 := Tryz.underlying4
  a4 := Tryz.isAgg4
  z4 := Tryz.sizeOf4
  v4 := Tryz.zeroValue4
  t5 := Tryz.underlying5
  a5 := Tryz.isAgg5
  z5 := Tryz.sizeOf5
  v5 := Tryz.zeroValue5
  t9 := Tryz.underlying9
  a9 := Tryz.isAgg9
  z9 := Tryz.sizeOf9
  v9 := Tryz.zeroValue9
  t22 := Tryz.underlying71
  a22 := Tryz.isAgg71
  z22 := Tryz.sizeOf71
  v22 := Tryz.zeroValue71
  t23 := Tryz.underlying71
  a23 := Tryz.isAgg71
  z23 := Tryz.sizeOf71
  v23 := Tryz.zeroValue71
  t25 := Tryz.underlying3
  a25 := Tryz.isAgg3
  z25 := Tryz.sizeOf3
  v25 := Tryz.zeroValue3
  t32 := Tryz.underlying229
  a32 := Tryz.isAgg229
  z32 := Tryz.sizeOf229
  v32 := Tryz.zeroValue229
  t35 := Tryz.underlying241
  a35 := Tryz.isAgg241
  z35 := Tryz.sizeOf241
  v35 := Tryz.zeroValue241
  t36 := Tryz.underlying242
  a36 := Tryz.isAgg242
  z36 := Tryz.sizeOf242
  v36 := Tryz.zeroValue242
  t41 := Tryz.underlying148
  a41 := Tryz.isAgg148
  z41 := Tryz.sizeOf148
  v41 := Tryz.zeroValue148
  t44 := Tryz.underlying248
  a44 := Tryz.isAgg248
  z44 := Tryz.sizeOf248
  v44 := Tryz.zeroValue248
  t46 := Tryz.underlying250
  a46 := Tryz.isAgg250
  z46 := Tryz.sizeOf250
  v46 := Tryz.zeroValue250
  t53 := Tryz.underlying251
  a53 := Tryz.isAgg251
  z53 := Tryz.sizeOf251
  v53 := Tryz.zeroValue251
  t57 := Tryz.underlying139
  a57 := Tryz.isAgg139
  z57 := Tryz.sizeOf139
  v57 := Tryz.zeroValue139
  t63 := Tryz.underlying256
  a63 := Tryz.isAgg256
  z63 := Tryz.sizeOf256
  v63 := Tryz.zeroValue256
  t64 := Tryz.underlying257
  a64 := Tryz.isAgg257
  z64 := Tryz.sizeOf257
  v64 := Tryz.zeroValue257 }

theorem sortsI (m : Nat) : AnyZI.SortsIn Tryz.prog laySorted_ren Fence.wide m :=
  ⟨fun blk off cap ss W hH hblk hsz => callsIn_wide.2 (AnyM.slices_Sort_int laySort blk off cap ss W hH hblk hsz),
   fun p cap W => callsIn_wide.2 (AnyM.slices_Sort_int_none laySort p cap W)⟩

def srt (l : List Int) : List Int := l.mergeSort (fun x y => decide (x ≤ y))
theorem srt_perm {a b : List Int} (h : a.Perm b) : srt a = srt b := by
  unfold srt
  have tr : ∀ (x y z : Int), decide (x ≤ y) = true → decide (y ≤ z) = true → decide (x ≤ z) = true := by
    intro x y z h1 h2
    simp at *
    omega
  have to : ∀ (x y : Int), (decide (x ≤ y) || decide (y ≤ x)) = true := by
    intro x y
    simp
    omega
  refine List.Perm.eq_of_pairwise (le := fun a b => decide (a ≤ b) = true) (fun a b _ _ h1 h2 => ?_) (List.pairwise_mergeSort tr to a) (List.pairwise_mergeSort tr to b) (((List.mergeSort_perm a _).trans h).trans (List.mergeSort_perm b _).symm)
  simp at h1 h2
  omega
theorem srt_mem {l : List Int} {x : Int} : x ∈ srt l ↔ x ∈ l := (List.mergeSort_perm l _).mem_iff
theorem srt_len (l : List Int) : (srt l).length = l.length := (List.mergeSort_perm l _).length_eq

theorem own_ints {w : World} {base : Nat} {v : Value} {ks : List Int} (h : w.ownsRow base 3 1 v ks.length (ks.map encZ)) (hk : ∀ k ∈ ks, I64 k) : OwnL tInt w base v ks := by
  refine ⟨ks.map fun k => [encZ k], ?_, by simp, ?_, ?_⟩
  · have flat1 : ∀ (l : List Int), (l.map fun k => [encZ k]).flatten = l.map encZ := by
      intro l
      induction l with
      | nil => rfl
      | cons x r ih => simp [ih]
    rw [flat1]
    exact h
  · intro c hc
    obtain ⟨k, _, rfl⟩ := List.mem_map.1 hc
    rfl
  · intro i c x hi hx
    rw [List.getElem?_map, hx] at hi
    simp at hi
    subst hi
    exact ⟨rfl, hk x (List.mem_of_getElem? hx)⟩

def SrtPost (w : World) (keys : List Int) (e : Ending) (w' : World) : Prop := ∃ v, e = .returned v ∧ OwnL tInt w' w.heap.size v (srt keys) ∧ Below w.heap.size w w'
theorem sorted_is (g : Nat) (lb : Array Value) (eg : ∀ args w, (callFunc g args).run Tryz.prog w = .ok (.enter g args) w) (keys : List Int) (hk : ∀ k ∈ keys, I64 k) (hl : keys.length ≤ 1000000) (w : World)
    (hseq : SeqGives Fence.wide 2 Tryz.prog g lb encZ (fun ss => ss.Perm keys) keys.length w) :
    Calls Tryz.prog 117 #[.func (.func g) #[] lb] w (SrtPost w keys) := by
  have cS := AnyZI.sorted_in laySorted Fence.wide 5 trivial trivial trivial trivial rfl (by omega) (sortsI _) (enters_of Tryz.func163 (by kernel_rfl) rfl) g lb trivial eg _ _ (by unfold maxLen; omega) (by omega) _ hseq
  change CallsIn _ _ Tryz.prog 117 _ _ _ at cS
  refine ((callsIn_wide (n := 5)).1 cS).mono ?_
  rintro e w' ⟨v, ss, rfl, hS, hrow, hnil, hb⟩
  refine ⟨v, rfl, own_ints ?_ ?_, hb⟩
  · rw [srt_len, ← hS.length_eq, ← srt_perm hS]
    exact hrow
  · intro k hk'
    exact hk k (srt_mem.1 hk')

set_option maxRecDepth 100000 in
set_option maxHeartbeats 2000000 in
theorem keys1S (n : Nat) (hn : 1 ≤ n) (l Bm b : Nat) (lst : List (Int × Int)) (J : List Int → World → Prop)
    (hY : ∀ pre x W, J pre W → pre.length < lst.length → YieldAt Fence.wide (n - 1) Tryz.prog l #[encZ x] W fun e W' => e = .returned (.bool true) ∧ J (pre ++ [x]) W' ∧ KeepsWalks W W')
    (W : World) (hJ : AbidesFrom W.heap.size J) (hm : W.cell? ⟨Bm, 0, none⟩ = some (.map (some b))) (hM : MapIs mInt (Value.int .i64) W b lst) (h0 : J [] W) :
    CallsIn Fence.wide n Tryz.prog 164 #[.func (.yield l) #[] #[], .pointer (some ⟨Bm, 0, none⟩)] W fun e W' => (∃ v, e = .returned v) ∧ ∃ ss : List Int, ss.Perm (lst.map (·.1)) ∧ J ss W' := by
  refine callsIn_of_wp Tryz.func164 rfl trivial ?_ rfl
  simp only [Tryz.ntmps164, List.size_toArray, List.length_cons, List.length_nil, Nat.reduceAdd, Nat.reduceSub, Array.replicate_succ, Array.replicate_zero, List.push_toArray, List.append_toArray, List.nil_append, List.cons_append]
  gi_wp2_with (first
    | (gi_at_range; refine wpIn_range rfl _ 105 rfl 3 Tryz.underlying105 b lst rfl hM ?_; intro w0 hrg0 hg0 hs0)
    | gi_in)
  go_frame
  gi_loopw [3] (fun _ wr => ∃ (ss : List Int), Rng mInt (Value.int .i64) wr b W.heap.size lst ss ∧ J ss wr)
    (fun _ wr => wr.rangeLeft b W.heap.size)
  case atStart =>
    exact ⟨[], hrg0, hJ [] W w0 none h0 hg0 (fun r e => by cases e)⟩
  case round =>
    obtain ⟨ss, hrg, hJs⟩ := hrel
    gi_wp2_with (first
      | (gi_at_next; refine wpIn_next rfl _ rfl b W.heap.size lst ss rfl hrg ?_ ?_)
      | gi_in)
    · intro hp
      gi_wp2
      go_end0
      exact ⟨⟨_, rfl⟩, ss, hp, hJs⟩
    · intro kx v w2 hkv hrg2 hlt hg2 hs2 hen
      have hek : mInt.ek kx = .int .i64 kx := rfl
      rw [hek] at hen ⊢
      have hlen := hrg2.len
      have hJ2 : J ss w2 := hJ ss wr w2 (some W.heap.size) hJs hg2 (fun r e => by cases e; exact ⟨Nat.le_refl _, hrg.iter_walk⟩)
      obtain ⟨fn, tmps, assign, body, hy, hR⟩ := hY ss kx _ hJ2 (by simp at hlen; omega)
      clear hs2
      gi_wp2
      refine hR.mono ?_
      rintro e W3 ⟨rfl, hJ4, hk4⟩
      have hrg4 := hrg2.of_walks hk4
      gi_wp2
      go_roundw
      case rel => exact ⟨ss ++ [kx], hrg4, hJ4⟩
      case measure =>
        have e1 := rangeLeft_walks hk4 hrg2
        rw [e1]
        exact hlt
theorem keysfS (mb : Option Nat) (w : World) :
    Calls Tryz.prog 118 #[.map mb] w fun e w' => e = .returned (.func (.func 164) #[] #[.pointer (some ⟨w.heap.size, 0, none⟩)]) ∧ w' = w.alloc (.cells #[.map mb] 105) := by
  go_enter Tryz.func118, Tryz.ntmps118
  go_wp2_with fail
  go_ret
  exact ⟨rfl, rfl⟩
theorem givesS (n : Nat) (hn : 1 ≤ n) (Bm b : Nat) (lst : List (Int × Int)) (w : World) (hBm : Bm < w.heap.size) (hm : w.cell? ⟨Bm, 0, none⟩ = some (.map (some b))) (hM : MapIs mInt (Value.int .i64) w b lst) :
    SeqGives Fence.wide n Tryz.prog 164 #[.pointer (some ⟨Bm, 0, none⟩)] encZ (fun ss => ss.Perm (lst.map (·.1))) lst.length w := fun l J W hW hJ hY h0 =>
  keys1S n hn l Bm b lst J hY W hJ ((hW.cell (p := ⟨Bm, 0, none⟩) hBm).trans hm) (hM.keep (hW.block b hM.lt)) h0
theorem sortedS (Bm b : Nat) (lst : List (Int × Int)) (w : World) (hBm : Bm < w.heap.size) (hm : w.cell? ⟨Bm, 0, none⟩ = some (.map (some b))) (hM : MapIs mInt (Value.int .i64) w b lst) (hl : lst.length ≤ 1000000) :
    Calls Tryz.prog 117 #[.func (.func 164) #[] #[.pointer (some ⟨Bm, 0, none⟩)]] w (SrtPost w (lst.map (·.1))) :=
  sorted_is 164 #[.pointer (some ⟨Bm, 0, none⟩)] (enters_of Tryz.func164 (by kernel_rfl) rfl) (lst.map (·.1)) (fun k hk => by obtain ⟨x, hx, rfl⟩ := List.mem_map.1 hk; exact hM.oks x hx) (by rw [List.length_map]; exact hl) w (by rw [List.length_map]; exact givesS 2 (by omega) Bm b lst w hBm hm hM)
end Go.Proofs.YtfnmlpnncjhnmaaGreat


/- trial: tell. -/
set_option linter.unusedVariables false
set_option linter.unusedSimpArgs false
namespace Go.Proofs.YtfnmlpnncjhnmaaGreat
open Go.RowKit Go.Maps

abbrev pairV (x : Int × Int) : List Value := [.int .i64 x.1, .int .i64 x.2]
theorem two_cells {cs : List Value} (h : cs.length = 2) : ∃ c0 c1, cs = [c0, c1] := by
  match cs, h with
  | [c0, c1], _ => exact ⟨c0, c1, rfl⟩
set_option maxRecDepth 100000 in
theorem pair_of {H : Type} {enc : TypeId × Value → H} {w : World} {fuel : Nat} {cs : List Value} {d : DataW H} {ps : List MemPlace}
    (h1 : DataW.trod enc Tryz.prog w 0 (fun _ => true) true fuel 110 cs = some (d, ps)) : ∃ x : Int × Int, cs = pairV x ∧ I64 x.1 ∧ I64 x.2 := by
  obtain ⟨xs, m, _, _, hl, hxl, hel⟩ := DataW.trod_array Tryz.underlying110 h1
  have h1c : Tryz.prog.cellsOf 3 = 1 := by kernel_rfl
  have h2c : Tryz.prog.cellsOf 110 = 2 := by kernel_rfl
  rw [h2c] at hl
  obtain ⟨c0, c1, rfl⟩ := two_cells hl
  have e0 := hel 0 (by omega)
  have e1 := hel 1 (by omega)
  rw [h1c] at e0 e1
  simp only [Nat.zero_mul, Nat.one_mul, List.drop_zero, List.take_succ_cons, List.take_zero, List.drop_succ_cons] at e0 e1
  rw [List.getElem?_eq_getElem (by omega)] at e0 e1
  obtain ⟨x0, hx0, _, w0⟩ := DataW.trod_int Tryz.underlying3 e0
  obtain ⟨x1, hx1, _, w1⟩ := DataW.trod_int Tryz.underlying3 e1
  simp only [List.cons.injEq, and_true] at hx0 hx1
  subst hx0
  subst hx1
  exact ⟨(x0, x1), rfl, w0, w1⟩
def tPair : Ty Tryz.prog 110 (Int × Int) where
  n := 2
  R := fun _ _ cs x => cs = pairV x ∧ I64 x.1 ∧ I64 x.2
  hn := by kernel_rfl
  len := by rintro _ _ _ _ ⟨rfl, _⟩; rfl
  keep := fun _ h => h
  mono := fun _ h => h
  of := fun h1 _ => pair_of h1
theorem pair_free (w : World) (F G : Nat → Prop) (c : List Value) (x : Int × Int) (h : tPair.R w F c x) : tPair.R w G c x := h
theorem pair_one (w : World) (F : Nat → Prop) (c : List Value) (x : Int × Int) (h : tPair.R w F c x) : ∀ u ∈ c, u.oneCell' = true := by
  obtain ⟨rfl, _⟩ := h
  simp [Value.oneCell']
theorem infoPair : (Tryz.prog.info? 110).map (fun i => (i.zero, i.size, i.bytes)) = some (some (.agg #[.int .i64 0, .int .i64 0]), 2, 16) := by kernel_rfl
theorem pair_at {w : World} {F : Nat → Prop} {a : Option Addr} {l : List (Int × Int)} (h : Sl tPair w F a l) (i : Nat) (hi : i < l.length) :
    ∃ ad, a = some ad ∧ F ad.block ∧ ad.block < w.heap.size ∧ w.cell? (ad.add (i * 2)) = some (.int .i64 l[i].1) ∧ w.cell? ⟨(ad.add (i * 2)).block, (ad.add (i * 2)).off + 1, none⟩ = some (.int .i64 l[i].2) ∧ I64 l[i].1 ∧ I64 l[i].2 := by
  obtain ⟨ad, ces, rfl, hf, hlt, hc, rfl, h1, h2⟩ := h i l[i] (List.getElem?_eq_getElem hi)
  rw [show tPair.n = 2 from rfl] at hc
  refine ⟨ad, rfl, hf, hlt, ?_, ?_, h1, h2⟩
  · have := hc 0 _ rfl
    simpa [Addr.add] using this
  · have := hc 1 _ rfl
    rw [Addr.add] at this
    simpa using this
theorem infoInt : (Tryz.prog.info? 3).map (fun i => (i.zero, i.size, i.bytes)) = some (some (.int .i64 0), 1, 8) := by kernel_rfl
theorem eq_pair (x1 x2 y1 y2 : Int) (w : World) : (Op.equalIn 10000 110 (.agg #[.int .i64 x1, .int .i64 x2]) (.agg #[.int .i64 y1, .int .i64 y2])).run Tryz.prog w = .ok (x1 == y1 && x2 == y2) w := by
  obtain ⟨i0, hi, _⟩ := info_parts infoInt
  have hc : Tryz.prog.cellsOf 3 = 1 := by kernel_rfl
  rw [show (10000 : Nat) = 9999 + 1 from rfl, run_equalIn_array w 9999 _ _ Tryz.underlying110 hi, hc]
  simp only [List.range, List.range.loop, Op.eqItems]
  cases h1 : x1 == y1 <;> cases h2 : x2 == y2 <;> simp [go_sem, h1, h2]
/-- one element of two whole numbers in a block, as append takes it -/
theorem sl_one2 {P : Program} {t : TypeId} (T : Ty P t (Int × Int)) {w : World} {F : Nat → Prop} {b : Nat} {x : Int × Int} (hn : T.n = 2) (hb : w.heap[b]? = some (.cells #[.int .i64 x.1, .int .i64 x.2] t (0, 0))) (hF : F b) (hr : T.R w F (pairV x) x) :
    Sl T w F (some ⟨b, 0, none⟩) [x] := by
  intro i y hi
  cases i with
  | succ i => simp at hi
  | zero =>
    simp at hi
    subst hi
    refine ⟨_, pairV x, rfl, hF, (Array.getElem?_eq_some_iff.1 hb).1, fun k u hu => ?_, hr⟩
    rw [Nat.zero_mul, Go.Addr.add_add, Nat.zero_add]
    have : (⟨b, 0, none⟩ : Addr).add k = ⟨b, k, none⟩ := by unfold Addr.add; split <;> simp_all
    rw [this, cell_of_row w b k _ t (0, 0) hb]
    simpa using hu

def tellK (s : List (Int × Int)) (k : Int) : List (Int × Int) := if at0 s k == 0 then [] else [(k, at0 s k)]
def tellS (s : List (Int × Int)) : List (Int × Int) := (srt (s.map (·.1))).flatMap (tellK s)
theorem flat_succ {α β : Type} (f : α → List β) (l : List α) (n : Nat) (hn : n < l.length) : (l.take (n + 1)).flatMap f = (l.take n).flatMap f ++ f l[n] := by
  rw [List.take_succ_eq_append_getElem hn, List.flatMap_append]
  simp
theorem flat_len1 {α β : Type} (f : α → List β) (hf : ∀ x, (f x).length ≤ 1) : ∀ (l : List α), (l.flatMap f).length ≤ l.length
  | [] => by simp
  | x :: r => by
    rw [List.flatMap_cons, List.length_append, List.length_cons]
    have := flat_len1 f hf r
    have := hf x
    omega
theorem tellK_len (s : List (Int × Int)) (k : Int) : (tellK s k).length ≤ 1 := by
  unfold tellK
  split <;> simp
theorem tellS_len (s : List (Int × Int)) : (tellS s).length ≤ s.length := by
  unfold tellS
  refine Nat.le_trans (flat_len1 _ (tellK_len s) _) ?_
  rw [srt_len, List.length_map]
  exact Nat.le_refl _
theorem at0_val {s : List (Int × Int)} (h : ∀ x ∈ s, I64 x.2) (k : Int) : I64 (at0 s k) := by
  unfold at0 look
  cases hf : s.find? (fun x => x.1 = k) with
  | none => decide
  | some x => exact h x (List.mem_of_find?_eq_some hf)

def TellPost (w : World) (r : List (Int × Int)) (e : Ending) (w' : World) : Prop := ∃ v, e = .returned v ∧ OwnL tPair w' w.heap.size v r ∧ Below w.heap.size w w'

set_option maxHeartbeats 8000000 in
set_option maxRecDepth 100000 in
theorem tell_any {w : World} {b : Nat} {s : List (Int × Int)} (hM : MapIs mInt (Value.int .i64) w b s) (hs : s.length ≤ 100000) (hv : ∀ x ∈ s, I64 x.2) :
    Calls Tryz.prog 44 #[.map (some b)] w (TellPost w (tellS s)) := by
  have hbl := hM.lt
  have HM := Lib.hid hM
  have HV := Lib.hid hv
  have hM1 : MapIs mInt (Value.int .i64) (w.alloc (.cells #[.map (some b)] 105)) b s := hM.keep (Below.heap_alloc w _ b hbl)
  have HC := Lib.hid (sortedS w.heap.size b s (w.alloc (.cells #[.map (some b)] 105)) (by simp) (by rw [blk_cells (blk_new w (.cells #[.map (some b)] 105)) 0]; rfl) hM1 (by omega))
  clear hM hM1 hv
  obtain ⟨i0, hi, hz0, hz1, hz2⟩ := info_parts infoPair
  go_enter Tryz.func44, Tryz.ntmps44
  go_wp2_with fail
  refine (keysfS (some b) w).mono ?_
  rintro en w1 ⟨rfl, rfl⟩
  go_wp2_with fail
  refine HC.out.mono ?_
  rintro en w2 ⟨v, rfl, ho, hb⟩
  have HB2 := Lib.hid (belows_then ((Below.refl w.heap.size w).alloc (Nat.le_refl _) (.cells #[.map (some b)] 105)) (by simp) hb)
  have hkl := srt_len (s.map (·.1))
  rw [List.length_map] at hkl
  obtain ⟨ka, kc, rfl, _, _, hks⟩ := ho.slice
  generalize hke : srt (s.map (·.1)) = ks at hks hkl ⊢
  have HKE := Lib.hid hke
  have HKS := Lib.hid hks
  have hks' : ks.length ≤ 100000 := by omega
  clear ho hb hks hke hkl HC
  go_wp2_with fail
  go_loopw [3, 10] (fun vo vi wr => ∃ (n : Nat) (vx : Value), vx = vo ∧ n ≤ ks.length ∧ vi = .int .i64 n ∧ OwnL tPair wr w2.heap.size vx ((ks.take n).flatMap (tellK s)) ∧ Below w2.heap.size w2 wr) (fun _ vi _ => ks.length - (intOf vi).toNat)
  case atStart => exact ⟨0, _, rfl, Nat.zero_le _, rfl, OwnL.nil _ _, Below.refl _ _⟩
  case round =>
    obtain ⟨n, vo, rfl, hn, rfl, ho, hb⟩ := hrel
    have HO := Lib.hid ho
    have HB1 := Lib.hid hb
    clear ho hb
    by_cases hlt : n < ks.length
    · obtain ⟨ad, rfl, hadl, hc0⟩ := int_at (Sl.keep (fun k hk _ => HB1.out.block k hk) HKS.out) n hlt
      have HKW : Hid (I64 ks[n]) := Lib.hid (by
        have hm : ks[n] ∈ s.map (·.1) := srt_mem.1 (by rw [HKE.out]; exact List.getElem_mem hlt)
        obtain ⟨x, hx, hxe⟩ := List.mem_map.1 hm
        rw [← hxe]
        exact HM.out.oks x hx)
      have hmb : wr.heap[b]? = w.heap[b]? := (HB1.out.block b (Nat.lt_of_lt_of_le hbl HB2.out.size)).trans (HB2.out.block b hbl)
      have hlk := lookI HM.out Tryz.underlying105 HKW.out wr hmb
      have HVW := Lib.hid (at0_val HV.out ks[n])
      have HST := Lib.hid (flat_succ (tellK s) ks n hlt)
      have hlen : ((ks.take n).flatMap (tellK s)).length ≤ 100000 := by
        have := flat_len1 _ (tellK_len s) (ks.take n)
        rw [List.length_take] at this
        omega
      generalize hat : at0 s ks[n] = v at hlk HVW
      have HAT := Lib.hid hat
      clear hat hmb
      cases hv0 : v == 0
      · have hv1 : (v != 0) = true := by simpa using hv0
        have HN : Hid ((ks.take (n + 1)).flatMap (tellK s) = (ks.take n).flatMap (tellK s) ++ [(ks[n], v)]) := Lib.hid (by rw [HST.out]; unfold tellK; rw [HAT.out, hv0]; rfl)
        have HOA := Lib.hid (HO.out.alloc (.cells #[.int .i64 ks[n], .int .i64 v] 110))
        have HBA := Lib.hid (HB1.out.alloc HB1.out.size (.cells #[.int .i64 ks[n], .int .i64 v] 110))
        have HSL : Hid (Sl tPair (wr.alloc (.cells #[.int .i64 ks[n], .int .i64 v] 110)) (fun k => some k ≠ vo.ownBlock ∧ k < (wr.alloc (.cells #[.int .i64 ks[n], .int .i64 v] 110)).heap.size) (some ⟨wr.heap.size, 0, none⟩) [(ks[n], v)]) :=
          Lib.hid (sl_one2 tPair (x := (ks[n], v)) rfl (blk_new wr _) ⟨fun e => by have := (HO.out.lt _ e.symm).2; omega, by simp⟩ ⟨rfl, HKW.out, HVW.out⟩)
        have h63 : ((ks.take n).flatMap (tellK s)).length + [(ks[n], v)].length ≤ maxLen := by simp only [List.length_cons, List.length_nil]; unfold maxLen; omega
        have hby : (((ks.take n).flatMap (tellK s)).length + [(ks[n], v)].length) * 16 ≤ 140737488355328 := by simp only [List.length_cons, List.length_nil]; omega
        clear hv0
        go_wp2_with (at_builtin; refine wp_app (T := tPair) rfl _ _ 50 rfl i0 (.agg #[.int .i64 0, .int .i64 0]) 16 Tryz.underlying50 hi hz0 hz1 hz2 rfl (by decide) pair_one w2.heap.size vo ((ks.take n).flatMap (tellK s)) rfl HOA.out ⟨wr.heap.size, 0, none⟩ 1 [(ks[n], v)] rfl HSL.out h63 hby (by have := HBA.out.size; simp at this; simp; omega) ?_; intro v3 w3 hown hg hnil hat; have HO3 := Lib.hid hown; have HB3 := Lib.hid (Below.grown HBA.out hg HBA.out.size (fun k e => (HOA.out.lt k e).1)); clear hown hg hnil hat)
        go_roundw
        case rel => exact ⟨n + 1, _, rfl, by omega, by go_num, by rw [HN.out]; exact HO3.out, HB3.out⟩
        case measure => simp [intOf]; omega
      · have hv1 : (v != 0) = false := by simpa using hv0
        have HN : Hid ((ks.take (n + 1)).flatMap (tellK s) = (ks.take n).flatMap (tellK s)) := Lib.hid (by rw [HST.out]; unfold tellK; rw [HAT.out, hv0]; simp)
        clear hv0
        go_wp2_with fail
        go_roundw
        case rel => exact ⟨n + 1, _, rfl, by omega, by go_num, by rw [HN.out]; exact HO.out, HB1.out⟩
        case measure => simp [intOf]; omega
    · have HL : Hid (ks.take n = ks) := Lib.hid (take_all hn hlt)
      go_wp2_with fail
      go_ret
      refine ⟨vo, rfl, ?_, belows_then HB2.out HB2.out.size HB1.out⟩
      unfold tellS
      rw [HKE.out]
      have := HO.out.mono HB2.out.size
      rwa [HL.out] at this
end Go.Proofs.YtfnmlpnncjhnmaaGreat
