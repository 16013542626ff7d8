/- Accounts: how they lie in memory, plain charts. -/
import Derived.Test.YtgggpaacagbmcaaGreatX06GroupTells
import Derived.Test.YtgggpaacagbmcaaGreatX03GroupTells
import Derived.Test.YtgggpaacagbmcaaGreatX15GroupTells
import Derived.Test.YtgggpaacagbmcaaGreatX10GroupTells
import Derived.Test.YtgggpaacagbmcaaGreatX09GroupTells
import Derived.Laws.AppendOwnNone
set_option linter.unusedVariables false
set_option linter.unusedSimpArgs false
namespace Go.Proofs.YtgggpaacagbmcaaGreat
open Go.RowKit Go.Maps Go.Deep

structure Ac where
  code : Int
  kind : Int
  ret : Bool
  deriving DecidableEq
def Ac.mk' (x : Int × Int × Bool × Unit) : Ac := ⟨x.1, x.2.1, x.2.2.1⟩
def fAc : Flds Tryz.prog [fld "Code" 3 0 0, fld "Kind" 3 1 8, fld "Retired" 4 2 16] 0 (Int × Int × Bool × Unit) :=
  Flds.cons (f := fld "Code" 3 0 0) tInt rfl (Flds.cons (f := fld "Kind" 3 1 8) tInt rfl (Flds.cons (f := fld "Retired" 4 2 16) tBool rfl (Flds.nil _ _)))
def tAc : Ty Tryz.prog 79 Ac := (Ty.struct Tryz.underlying79 fAc (by kernel_rfl)).map Ac.mk'
def tAcs : Ty Tryz.prog 22 (List Ac) := Ty.slice Tryz.underlying22 (by kernel_rfl) tAc (by decide)
theorem tAc_n : tAc.n = 3 := rfl
abbrev acs (x : Ac) : List Value := [.int .i64 x.code, .int .i64 x.kind, .bool x.ret]
abbrev acv (x : Ac) : Value := .agg #[.int .i64 x.code, .int .i64 x.kind, .bool x.ret]
theorem ac_inv {w : World} {F : Nat → Prop} {cs : List Value} {o : Ac} (h : tAc.R w F cs o) : cs = acs o ∧ I64 o.code ∧ I64 o.kind := by
  obtain ⟨x, rfl, c1, c2, rfl, ⟨rfl, h1⟩, c3, c4, rfl, ⟨rfl, h2⟩, c5, c6, rfl, rfl, rfl⟩ := h
  exact ⟨rfl, h1, h2⟩
theorem ac_mk {w : World} {F : Nat → Prop} (o : Ac) (h1 : I64 o.code) (h2 : I64 o.kind) : tAc.R w F (acs o) o :=
  ⟨(o.code, o.kind, o.ret, ()), rfl, [_], [_, _], rfl, ⟨rfl, h1⟩, [_], [_], rfl, ⟨rfl, h2⟩, [_], [], rfl, rfl, rfl⟩
theorem ac_free (w : World) (F G : Nat → Prop) (c : List Value) (x : Ac) (h : tAc.R w F c x) : tAc.R w G c x := by
  obtain ⟨rfl, h1, h2⟩ := ac_inv h
  exact ac_mk x h1 h2
theorem ac_one (w : World) (F : Nat → Prop) (c : List Value) (x : Ac) (h : tAc.R w F c x) : ∀ u ∈ c, u.oneCell' = true := by
  obtain ⟨rfl, _⟩ := ac_inv h
  simp [Value.oneCell']
theorem infoAc : (Tryz.prog.info? 79).map (fun i => (i.zero, i.size, i.bytes)) = some (some (.agg #[.int .i64 0, .int .i64 0, .bool false]), 3, 24) := by kernel_rfl
theorem ac_at {w : World} {F : Nat → Prop} {a : Option Addr} {l : List Ac} (h : Sl tAc w F a l) (i : Nat) (hi : i < l.length) :
    ∃ ad, a = some ad ∧ F ad.block ∧ ad.block < w.heap.size ∧ w.cell? (ad.add (i * 3)) = some (.int .i64 l[i].code) ∧ w.cell? ⟨(ad.add (i * 3)).block, (ad.add (i * 3)).off + 1, none⟩ = some (.int .i64 l[i].kind) ∧
      w.cell? ⟨(ad.add (i * 3)).block, (ad.add (i * 3)).off + 2, none⟩ = some (.bool l[i].ret) ∧ I64 l[i].code ∧ I64 l[i].kind := by
  obtain ⟨ad, ces, rfl, hf, hlt, hc, hr⟩ := h i l[i] (List.getElem?_eq_getElem hi)
  obtain ⟨rfl, h1, h2⟩ := ac_inv hr
  rw [tAc_n] at hc
  refine ⟨ad, rfl, hf, hlt, ?_, ?_, ?_, h1, h2⟩
  · have := hc 0 _ rfl
    simpa [Addr.add] using this
  · have := hc 1 _ rfl
    rw [Addr.add] at this
    simpa using this
  · have := hc 2 _ rfl
    rw [Addr.add] at this
    simpa using this
/-- one account in a new block -/
theorem sl_oneA {w : World} {F : Nat → Prop} {b : Nat} {x : Ac} (hb : w.heap[b]? = some (.cells #[.int .i64 x.code, .int .i64 x.kind, .bool x.ret] 79 (0, 0))) (hF : F b) (h1 : I64 x.code) (h2 : I64 x.kind) : Sl tAc w F (some ⟨b, 0, none⟩) [x] := by
  intro i y hi
  cases i with
  | succ i => simp at hi
  | zero =>
    simp at hi
    subst hi
    refine ⟨_, acs x, rfl, hF, (Array.getElem?_eq_some_iff.1 hb).1, fun k u hu => ?_, ac_mk x h1 h2⟩
    rw [Nat.zero_mul, Go.Addr.add_add, Nat.zero_add]
    have : (⟨b, 0, none⟩ : Addr).add k = ⟨b, k, none⟩ := by unfold Addr.add; split <;> simp_all
    rw [this, cell_of_row w b k _ 79 (0, 0) hb]
    simpa using hu
theorem Sl.take {P : Program} {e : TypeId} {α : Type} {T : Ty P e α} {w : World} {F : Nat → Prop} {a : Option Addr} {xs : List α} (h : Sl T w F a xs) (k : Nat) : Sl T w F a (xs.take k) := by
  intro i x hx
  refine h i x ?_
  rw [List.getElem?_take] at hx
  split at hx
  · exact hx
  · cases hx
theorem Sl.drop {P : Program} {e : TypeId} {α : Type} {T : Ty P e α} {w : World} {F : Nat → Prop} {ad : Addr} {xs : List α} (h : Sl T w F (some ad) xs) (k : Nat) : Sl T w F (some (ad.add (k * T.n))) (xs.drop k) := by
  intro i x hx
  rw [List.getElem?_drop] at hx
  obtain ⟨ad', ces, he, h1, h2, h3, h4⟩ := h (k + i) x hx
  injection he with he
  subst he
  refine ⟨_, ces, rfl, by rw [add_block]; exact h1, by rw [add_block]; exact h2, fun j v hv => ?_, h4⟩
  have := h3 j v hv
  have e : (ad.add (k * T.n)).add (i * T.n) = ad.add ((k + i) * T.n) := by rw [Go.Addr.add_add, ← Nat.add_mul]
  rw [e]
  exact this

/-- what a chart may have -/
def rowB (x : Ac) : Bool := decide (1 ≤ x.code) && (decide (x.code ≤ 9999) && (decide (1 ≤ x.kind) && decide (x.kind ≤ 5)))
theorem rowB_cases {c k : Int} {r b : Bool} (h : rowB ⟨c, k, r⟩ = b) : (b = true ∧ 1 ≤ c ∧ c ≤ 9999 ∧ 1 ≤ k ∧ k ≤ 5) ∨ (b = false ∧ (c < 1 ∨ 1 ≤ c ∧ (9999 < c ∨ c ≤ 9999 ∧ (k < 1 ∨ 1 ≤ k ∧ 5 < k)))) := by
  unfold rowB at h
  cases b
  · right
    simp at h
    refine ⟨rfl, ?_⟩
    omega
  · left
    simp at h
    refine ⟨rfl, ?_⟩
    omega
structure GoodA (l : List Ac) : Prop where
  up : l.Pairwise (fun x y => x.code < y.code)
  ok : ∀ x ∈ l, rowB x = true
theorem GoodA.nil : GoodA [] := ⟨List.Pairwise.nil, by simp⟩
theorem take_ins {l : List Ac} (h : GoodA l) {a : Ac} (ha : rowB a = true) {k : Nat} (h1 : ∀ i (hi : i < l.length), i < k → l[i].code < a.code) (h2 : ∀ hk : k < l.length, a.code < l[k].code) : GoodA (l.take k ++ [a] ++ l.drop k) := by
  have hup := h.up
  have hdrop : ∀ y ∈ l.drop k, a.code < y.code := by
    intro y hy
    obtain ⟨i, hi, rfl⟩ := List.mem_iff_getElem.1 hy
    rw [List.getElem_drop]
    rw [List.length_drop] at hi
    have hk : k < l.length := by omega
    have := h2 hk
    rcases Nat.eq_or_lt_of_le (Nat.zero_le i) with rfl | hi0
    · simpa using this
    · have := (List.pairwise_iff_getElem.1 hup) k (k + i) hk (by omega) (by omega)
      omega
  have htake : ∀ y ∈ l.take k, y.code < a.code := by
    intro y hy
    obtain ⟨i, hi, rfl⟩ := List.mem_iff_getElem.1 hy
    rw [List.length_take] at hi
    rw [List.getElem_take]
    exact h1 i (by omega) (by omega)
  refine ⟨?_, fun x hx => ?_⟩
  · rw [List.append_assoc, List.pairwise_append]
    refine ⟨hup.sublist (List.take_sublist _ _), ?_, fun x hx y hy => ?_⟩
    · rw [List.singleton_append, List.pairwise_cons]
      exact ⟨hdrop, hup.sublist (List.drop_sublist _ _)⟩
    · rw [List.singleton_append, List.mem_cons] at hy
      rcases hy with rfl | hy
      · exact htake x hx
      · have := htake x hx
        have := hdrop y hy
        omega
  · simp only [List.mem_append, List.mem_singleton] at hx
    rcases hx with (hx | rfl) | hx
    · exact h.ok x (List.mem_of_mem_take hx)
    · exact ha
    · exact h.ok x (List.mem_of_mem_drop hx)

/-- the account of a code -/
def findA (l : List Ac) (c : Int) : Option Ac := l.find? (fun x => x.code = c)
def codesOf (l : List Ac) : List (Int × Ac) := l.map (fun x => (x.code, x))
theorem look_codes (l : List Ac) (c : Int) : look (codesOf l) c = findA l c := by
  unfold look codesOf findA
  rw [List.find?_map, Option.map_map]
  have : ((fun x : Int × Ac => decide (x.1 = c)) ∘ fun x : Ac => (x.code, x)) = fun x : Ac => decide (x.code = c) := rfl
  rw [this]
  cases l.find? (fun x => decide (x.code = c)) <;> rfl
def kindA (l : List Ac) (c : Int) : Int := match findA l c with | some a => a.kind | none => 0
theorem findA_ok {l : List Ac} (h : GoodA l) {c : Int} {a : Ac} (ha : findA l c = some a) : rowB a = true ∧ a.code = c := by
  unfold findA at ha
  exact ⟨h.ok a (List.mem_of_find?_eq_some ha), by simpa using List.find?_some ha⟩
theorem kindA_bd {l : List Ac} (h : GoodA l) (c : Int) : (findA l c = none ∧ kindA l c = 0) ∨ ∃ a, findA l c = some a ∧ kindA l c = a.kind ∧ 1 ≤ a.kind ∧ a.kind ≤ 5 := by
  cases hf : findA l c with
  | none => exact .inl ⟨rfl, by unfold kindA; rw [hf]⟩
  | some a =>
    refine .inr ⟨a, rfl, by unfold kindA; rw [hf], ?_⟩
    have := (findA_ok h hf).1
    unfold rowB at this
    simp at this
    omega
/-- the balances of accounts of kinds -/
def pickB (l : List Ac) (ks : List Int) (x : Int × Int) : Bool := match findA l x.1 with | some a => ks.contains a.kind | none => false
theorem pick_want {l : List Ac} (h : GoodA l) (ks : List Int) (x : Int × Int) : pickB l ks x = ks.any (fun j => decide (0 < kindA l x.1) && j == kindA l x.1) := by
  unfold pickB
  rcases kindA_bd h x.1 with ⟨h1, h2⟩ | ⟨a, h1, h2, h3, _⟩
  · rw [h1, h2]
    simp
  · rw [h1, h2]
    have : decide (0 < a.kind) = true := by simpa using by omega
    simp only [this, Bool.true_and]
    rw [Bool.eq_iff_iff, List.contains_iff_mem, List.any_eq_true]
    constructor
    · intro hm
      exact ⟨_, hm, by simp⟩
    · rintro ⟨y, hy, he⟩
      rw [beq_iff_eq] at he
      rwa [← he]
theorem pick_all {l : List Ac} (h : GoodA l) (x : Int × Int) : pickB l [1, 2, 3, 4, 5] x = decide (0 < kindA l x.1) := by
  unfold pickB
  rcases kindA_bd h x.1 with ⟨h1, h2⟩ | ⟨a, h1, h2, h3, h4⟩
  · rw [h1, h2]
    rfl
  · rw [h1, h2]
    have h0 : decide (0 < a.kind) = true := by simpa using by omega
    rw [h0]
    simp
    omega
/-- where a row of a chart comes to stand -/
def insA : List Ac → Ac → List Ac
  | [], x => [x]
  | y :: r, x => if y.code < x.code then y :: insA r x else x :: y :: r
theorem insA_at {x : Ac} : ∀ {l : List Ac} {n : Nat}, (∀ i (hi : i < l.length), i < n → l[i].code < x.code) → n ≤ l.length → (∀ hn : n < l.length, x.code < l[n].code) → l.take n ++ [x] ++ l.drop n = insA l x
  | [], n, _, hn, _ => by
    obtain rfl : n = 0 := by simpa using hn
    rfl
  | y :: r, 0, _, _, h2 => by
    have := h2 (by simp)
    simp only [List.getElem_cons_zero] at this
    simp only [List.take_zero, List.nil_append, List.drop_zero, List.singleton_append, insA]
    rw [if_neg (by omega)]
  | y :: r, n + 1, h1, hn, h2 => by
    have h0 := h1 0 (by simp) (by omega)
    simp only [List.getElem_cons_zero] at h0
    simp only [List.take_succ_cons, List.drop_succ_cons, List.cons_append, insA]
    rw [if_pos h0, ← insA_at (n := n) (fun i hi hin => by have := h1 (i + 1) (by simp; omega) (by omega); simpa using this) (by simpa using hn) (fun h => by have := h2 (by simp; omega); simpa using this)]
def addE (l : List Ac) (x : Ac) : Int := if rowB x then (if l.any (fun y => y.code == x.code) then 7 else 0) else 1
def setStep (r : List Ac) (x : Ac) : List Ac := if addE r x == 0 then insA r x else r
/-- a chart out of rows, those that may be -/
def setR (rows : List Ac) : List Ac := (rows.take 30).foldl setStep []
theorem insA_len : ∀ (l : List Ac) (x : Ac), (insA l x).length = l.length + 1
  | [], x => rfl
  | y :: r, x => by
    unfold insA
    split
    · simp [insA_len r x]
    · simp
theorem insA_mem {x : Ac} : ∀ {l : List Ac} {y : Ac}, y ∈ insA l x ↔ y = x ∨ y ∈ l
  | [], y => by simp [insA]
  | z :: r, y => by
    unfold insA
    split
    · rw [List.mem_cons, insA_mem, List.mem_cons]
      constructor
      · rintro (h | h | h)
        · exact .inr (.inl h)
        · exact .inl h
        · exact .inr (.inr h)
      · rintro (h | h | h)
        · exact .inr (.inl h)
        · exact .inl h
        · exact .inr (.inr h)
    · simp
theorem insA_good : ∀ {l : List Ac} {x : Ac}, GoodA l → rowB x = true → l.any (fun y => y.code == x.code) = false → GoodA (insA l x)
  | [], x, _, hx, _ => ⟨by simp [insA], by simp [insA]; exact hx⟩
  | y :: r, x, h, hx, hn => by
    have hup := h.up
    rw [List.pairwise_cons] at hup
    simp only [List.any_cons, Bool.or_eq_false_iff] at hn
    have hne : y.code ≠ x.code := by simpa using hn.1
    have hg := insA_good (l := r) ⟨hup.2, fun z hz => h.ok z (List.mem_cons_of_mem _ hz)⟩ hx hn.2
    unfold insA
    split
    · rename_i hlt
      refine ⟨?_, ?_⟩
      · rw [List.pairwise_cons]
        refine ⟨fun z hz => ?_, hg.up⟩
        rcases insA_mem.1 hz with rfl | hz
        · exact hlt
        · exact hup.1 z hz
      · intro z hz
        rcases List.mem_cons.1 hz with rfl | hz
        · exact h.ok _ (List.mem_cons_self ..)
        · exact hg.ok z hz
    · rename_i hlt
      refine ⟨?_, ?_⟩
      · rw [List.pairwise_cons]
        refine ⟨fun z hz => ?_, h.up⟩
        rcases List.mem_cons.1 hz with rfl | hz
        · omega
        · have := hup.1 z hz; omega
      · intro z hz
        rcases List.mem_cons.1 hz with rfl | hz
        · exact hx
        · exact h.ok z hz
theorem setStep_good {r : List Ac} (h : GoodA r) (x : Ac) : GoodA (setStep r x) := by
  unfold setStep
  split
  · rename_i he
    have he' : addE r x = 0 := by simpa using he
    unfold addE at he'
    split at he'
    · rename_i hr
      split at he'
      · cases he'
      · rename_i ha
        exact insA_good h hr (by simpa using ha)
    · cases he'
  · exact h
theorem setStep_len (r : List Ac) (x : Ac) : (setStep r x).length ≤ r.length + 1 := by
  unfold setStep
  split
  · rw [insA_len]
    exact Nat.le_refl _
  · omega
theorem any_new {l : List Ac} {x : Ac} {n : Nat} (h : GoodA (l.take n ++ [x] ++ l.drop n)) : l.any (fun y => y.code == x.code) = false := by
  have hup := h.up
  rw [List.append_assoc, List.pairwise_append, List.singleton_append, List.pairwise_cons] at hup
  rw [List.any_eq_false]
  intro y hy
  rw [← List.take_append_drop n l, List.mem_append] at hy
  rcases hy with hy | hy
  · have := hup.2.2 y hy x (List.mem_cons_self ..)
    simp
    omega
  · have := hup.2.1.1 y hy
    simp
    omega
end Go.Proofs.YtgggpaacagbmcaaGreat


/- Plain: a group: what a member has, in the group's money. -/
set_option linter.unusedVariables false
set_option linter.unusedSimpArgs false
namespace Go.Proofs.YtgggpaacagbmcaaGreat
open Go.RowKit Go.Maps Go.Deep

structure Mb where
  en : Int
  sh : Int
  cl : Int
  av : Int
  ol : Int
/-- is an entity a member? -/
def innB (ms : List Mb) (e : Int) : Bool := ms.any (fun m => m.en == e)
/-- rates that may be -/
def rateB (n : Int) : Bool := decide (1 ≤ n) && decide (n ≤ 1000000000)
def mbB (m : Mb) : Bool := rateB m.cl && (rateB m.av && rateB m.ol)
def outL (ms : List Mb) (ls : List Ln) : List Ln := ls.filter (fun x => !innB ms x.par)
def inL (ms : List Mb) (ls : List Ln) : List Ln := ls.filter (fun x => innB ms x.par)
/-- a member's sums by account, and what it has with members -/
def linT (ms : List Mb) (J : List Jn) (e p : Int) : (List (Int × Int) × Int) × Int :=
  if !(tellS (accS [] (outL ms (linesOf J e 0 p)))).all (fun x => fitsB x.2) then (([], 0), 2) else if !fitsB (sumA (inL ms (linesOf J e 0 p))) then (([], 0), 2) else ((tellS (accS [] (outL ms (linesOf J e 0 p))), sumA (inL ms (linesOf J e 0 p))), 0)
/-- the rate of a kind -/
def rateK (m : Mb) (k : Int) : Int := if k == 4 || k == 5 then m.av else if k == 3 then m.ol else m.cl
/-- balances in another money, as far as they go -/
def trnL (r : List Ac) (m : Mb) (l : List (Int × Int)) : List (Int × Int) := (l.map (fun x => (x.1, (scaleT x.2 (rateK m (kindA r x.1)) 1000000).1))).filter (fun x => x.2 != 0)
def trnB (r : List Ac) (m : Mb) (l : List (Int × Int)) : Bool := l.all (fun x => (scaleT x.2 (rateK m (kindA r x.1)) 1000000).2 == 0)
theorem innB_iff {ms : List Mb} {e : Int} : innB ms e = true ↔ ∃ m ∈ ms, m.en = e := by
  unfold innB
  simp [List.any_eq_true]
theorem parts_lines (ms : List Mb) : ∀ (ls : List Ln), sumA (outL ms ls) + sumA (inL ms ls) = sumA ls
  | [] => rfl
  | x :: r => by
    have ih := parts_lines ms r
    unfold outL inL at ih ⊢
    rw [List.filter_cons, List.filter_cons]
    cases h : innB ms x.par
    · simp only [Bool.not_false, if_true, Bool.false_eq_true, if_false, sumA]
      omega
    · simp only [Bool.not_true, if_true, Bool.false_eq_true, if_false, sumA]
      omega
end Go.Proofs.YtgggpaacagbmcaaGreat


/- Ranging over maps in a plain walk; append of a slice that may be nil. -/
set_option linter.unusedVariables false
set_option linter.unusedSimpArgs false
namespace Go.Proofs.YtgggpaacagbmcaaGreat
open Go.RowKit Go.Maps

section
variable {P : Program} {t : TypeId} {κ ν : Type} {M : MK P t κ} {ev : ν → Value} {ops : Array Oper} {rest : List Oper} {o : Oper} {a : Act} {Q : Exit → Act → World → Prop} {w : World}
theorem wp_range (hg : o.guard = none) (m : Operand) (T : TypeId) (hop : o.op = Op.range T m) (e : TypeId) (ht : P.underlying T = some (.map t e)) (b : Nat) (l : List (κ × ν)) (hm : a.eval m = .map (some b)) (h : MapIs M ev w b l)
    (hK : ∀ w', Rng M ev w' b w.heap.size l [] → w.grownBy w' none → w'.heap.size = w.heap.size + 1 → wpList P ops Q rest (a.put o.dst (.pointer (some ⟨w.heap.size, 0, none⟩))) w') :
    wpList P ops Q (o :: rest) a w := by
  refine wpList_plain hg fun K' hK' => ?_
  obtain ⟨w', hrun, r1, r2, r3⟩ := h.range ht
  unfold Oper.wp
  simp [execOp, hop, hm, hrun, Result.andThen]
  exact hK' _ _ (hK w' r1 r2 r3)
theorem wp_next (hg : o.guard = none) (it : Operand) (hop : o.op = Op.next it false) (b r : Nat) (l : List (κ × ν)) (ss : List κ) (hit : a.eval it = .pointer (some ⟨r, 0, none⟩)) (h : Rng M ev w b r l ss)
    (hDone : ss.Perm (l.map (·.1)) → wpList P ops Q rest (a.put o.dst (.tuple #[.bool false])) w)
    (hMore : ∀ k v w', (k, v) ∈ l → Rng M ev w' b r l (ss ++ [k]) → w'.rangeLeft b r < w.rangeLeft b r → w.grownBy w' (some r) → w'.heap.size = w.heap.size →
      (Instr.entry (.pointer (some ⟨r, 0, none⟩))).run P w' = .ok (.tuple #[M.ek k, ev v]) w' → wpList P ops Q rest (a.put o.dst (.tuple #[.bool true, M.ek k, ev v])) w') :
    wpList P ops Q (o :: rest) a w := by
  refine wpList_plain hg fun K' hK' => ?_
  unfold Oper.wp
  rcases h.next o.type with ⟨h0, hrun⟩ | ⟨k, v, w', hkv, hrun, hrg, hlt, hgr, hsz, hen⟩
  · simp [execOp, hop, hit, hrun, Result.andThen]
    exact hK' _ _ (hDone h0)
  · simp [execOp, hop, hit, hrun, Result.andThen]
    exact hK' _ _ (hMore k v w' hkv hrg hlt hgr hsz hen)
end
section
variable {P : Program} {e : TypeId} {α : Type} {T : Ty P e α} {ops : Array Oper} {rest : List Oper} {o : Oper} {a : Act} {Q : Exit → Act → World → Prop} {w : World}
theorem wp_appA (hgd : o.guard = none) (s x : Operand) (t : TypeId) (ho : o.op = .call { callee := .builtin .append, args := #[s, x], argTypes := #[t, t] })
    (i : TypeInfo) (z : Value) (bytes : Nat) (ht : P.underlying t = some (.slice e)) (hi : P.info? e = some i) (hz : i.zero = some z) (hsize : i.size = T.n) (hby : i.bytes = bytes) (hzs : z.cells.size = T.n) (hsz : 0 < T.n)
    (h1c : ∀ (w : World) (F : Nat → Prop) (c : List Value) (x : α), T.R w F c x → ∀ u ∈ c, u.oneCell' = true)
    (base : Nat) (v : Value) (xs : List α) (hs : a.eval s = v) (hown : OwnL T w base v xs) (ad : Option Addr) (c : Nat) (ys : List α) (hx : a.eval x = .slice ad ys.length c) (hnil : ad = none → ys = [] ∧ c = 0)
    (hys : Sl T w (fun k => some k ≠ v.ownBlock ∧ k < w.heap.size) ad ys) (h63 : xs.length + ys.length ≤ maxLen) (hbytes : (xs.length + ys.length) * bytes ≤ 140737488355328) (hbase : base ≤ w.heap.size)
    (h : ∀ v' w', OwnL T w' base v' (xs ++ ys) → w.grownBy w' v.ownBlock → (v'.ownBlock = v.ownBlock ∨ v'.ownBlock = some w.heap.size) → wpList P ops Q rest (a.put o.dst v') w') :
    wpList P ops Q (o :: rest) a w := by
  cases ad with
  | some ad => exact wp_app hgd s x t ho i z bytes ht hi hz hsize hby hzs hsz h1c base v xs hs hown ad c ys hx hys h63 hbytes hbase (fun v' w' h1 h2 _ h4 => h v' w' h1 h2 h4)
  | none =>
    obtain ⟨rfl, rfl⟩ := hnil rfl
    obtain ⟨css, hr, h2⟩ := hown
    exact wpList_append_own_none hgd s x t ho base e i T.n ht hi v xs.length css.flatten hs hr hx (h v w (by rw [List.append_nil]; exact ⟨css, hr, h2⟩) ⟨rfl, rfl, rfl, Nat.le_refl _, fun _ _ _ => rfl⟩ (.inl rfl))
end
end Go.Proofs.YtgggpaacagbmcaaGreat


/- Charts of the document: a row, an account, a kind, one more account. -/
set_option linter.unusedVariables false
set_option linter.unusedSimpArgs false
namespace Go.Proofs.YtgggpaacagbmcaaGreat
open Go.RowKit Go.Maps Go.Deep

theorem three (w : World) (b : Nat) {t : TypeId} {x0 x1 x2 : Value} (h : w.heap[b]? = some (.cells #[x0, x1, x2] t (0, 0))) (v0 v1 v2 : Value) :
    ∃ w4, (((w.setCell ⟨b, 0, none⟩ v0).setCell ⟨b, 1, none⟩ v1).setCell ⟨b, 2, none⟩ v2) = w4 ∧ w4.heap[b]? = some (.cells #[v0, v1, v2] t (0, 0)) ∧ w4.heap.size = w.heap.size ∧
      (∀ k, k ≠ b → w4.heap[k]? = w.heap[k]?) ∧ (∀ B w0, Below B w0 w → B ≤ b → Below B w0 w4) := by
  refine ⟨_, rfl, ?_, by simp, fun k hk => ?_, fun B w0 hb hB => ?_⟩
  · have := blk_set (blk_set (blk_set h 0 v0) 1 v1) 2 v2
    simpa using this
  · iterate 3 (rw [Below.heap_setCell _ _ _ k hk])
  · iterate 3 (refine Below.setCell ?_ hB _)
    exact hb

theorem row_any (c k : Int) (w : World) {b : Bool} (h : rowB ⟨c, k, false⟩ = b) : Calls Tryz.prog 84 #[.int .i64 c, .int .i64 k] w fun e w' => e = .returned (.bool b) ∧ w' = w := by
  rcases rowB_cases h with ⟨rfl, h1, h2, h3, h4⟩ | ⟨rfl, h1 | ⟨h1, h2 | ⟨h2, h3 | ⟨h3, h4⟩⟩⟩⟩
  all_goals
    clear h
    go_enter Tryz.func84, Tryz.ntmps84
    go_wp2
    go_ret
    refine ⟨?_, rfl⟩
    first | rfl | (simp; omega)

def ac0 : Ac := ⟨0, 0, false⟩
def acD (l : List Ac) (c : Int) : Ac := (findA l c).getD ac0
theorem kindA_D (l : List Ac) (c : Int) : kindA l c = (acD l c).kind := by
  unfold kindA acD
  cases findA l c <;> rfl

set_option maxHeartbeats 2000000 in
set_option maxRecDepth 100000 in
theorem raccount_any (l : List Ac) (a : Option Addr) (cap : Nat) (c : Int) (w : World) {F : Nat → Prop} (hs : Sl tAc w F a l) (hl : l.length ≤ maxLen) :
    Calls Tryz.prog 102 #[.slice a l.length cap, .int .i64 c] w fun e w' => e = .returned (.tuple #[acv (acD l c), .bool (findA l c).isSome]) ∧ Below w.heap.size w w' := by
  have HS := Lib.hid hs
  have hl' : l.length ≤ 9223372036854775807 := by unfold maxLen at hl; omega
  clear hs hl
  have HB := Lib.hid ((Below.refl w.heap.size w).alloc (Nat.le_refl _) (.cells #[.int .i64 0, .int .i64 0, .bool false] 79))
  have HZ := Lib.hid (blk_new w (.cells #[.int .i64 0, .int .i64 0, .bool false] 79))
  go_enter Tryz.func102, Tryz.ntmps102
  go_wp2_with fail
  go_loopw [6] (fun vi wr => ∃ n : Nat, n ≤ l.length ∧ vi = .int .i64 n ∧ Hid ((l.take n).any (fun x => x.code = c) = false) ∧ wr = w.alloc (.cells #[.int .i64 0, .int .i64 0, .bool false] 79)) (fun vi _ => l.length - (intOf vi).toNat)
  case atStart => exact ⟨0, Nat.zero_le _, rfl, rfl, rfl⟩
  case round =>
    obtain ⟨n, hn, rfl, hany, hwr⟩ := hrel
    have HB1 : Hid (Below w.heap.size w wr) := by rw [hwr]; exact HB
    have HZ1 : Hid (wr.heap[w.heap.size]? = some (.cells #[.int .i64 0, .int .i64 0, .bool false] 79 (0, 0))) := by rw [hwr]; exact HZ
    have HWR := Lib.hid hwr
    clear hwr
    have hz := blk_cells HZ1.out
    have hzf := blk_frz HZ1.out
    have hzl := blk_lt HZ1.out
    by_cases hlt : n < l.length
    · obtain ⟨ad, rfl, _, hadl, hc0, hc1, hc2, _, _⟩ := ac_at (HS.out.keep fun k hk _ => HB1.out.block k hk) n hlt
      cases hv : (l[n].code == c)
      · have hd0 : decide (l[n].code = c) = false := by simpa using hv
        have hnext : (l.take (n + 1)).any (fun x => decide (x.code = c)) = false := by
          rw [any_take_succ _ l n hlt, hany.out, hd0]
          rfl
        clear hd0
        have HN := Lib.hid hnext
        clear hnext
        go_wp2_with fail
        go_roundw
        case rel => exact ⟨n + 1, by omega, by go_num, HN.out, HWR.out⟩
        case measure => simp [intOf]; omega
      · have hf : findA l c = some l[n] := find_first (fun x : Ac => decide (x.code = c)) l n hlt hany.out (by simpa using hv)
        have hd : acD l c = l[n] := by unfold acD; rw [hf]; rfl
        have HF := Lib.hid (And.intro hf hd)
        clear hf hd
        go_wp2_with fail
        obtain ⟨w4, hw4, h4, hs4, hk4, hb4⟩ := three wr w.heap.size HZ1.out (.int .i64 l[n].code) (.int .i64 l[n].kind) (.bool l[n].ret)
        rw [hw4]
        clear hw4
        refine bodyPost_ret (v := .tuple #[acv l[n], .bool true]) (results_row_tmp (fn := Tryz.f102) (p := 4) (ty := 79) rfl _ _ w.heap.size 79 _ (0, 0) _ rfl h4 Tryz.underlying79 rfl (by kernel_rfl)) rfl ?_
        exact ⟨by rw [HF.out.1, HF.out.2]; rfl, hb4 _ _ HB1.out (Nat.le_refl _)⟩
    · have hno : findA l c = none := by
        have := hany.out
        rw [take_all hn hlt] at this
        unfold findA
        rw [List.find?_eq_none]
        intro x hx he
        rw [List.any_eq_false] at this
        exact this x hx he
      have HNO := Lib.hid hno
      clear hno hany
      go_wp2_with fail
      obtain ⟨w4, hw4, h4, hs4, hk4, hb4⟩ := three wr w.heap.size HZ1.out (.int .i64 0) (.int .i64 0) (.bool false)
      rw [hw4]
      clear hw4
      refine bodyPost_ret (v := .tuple #[acv ac0, .bool false]) (results_row_tmp (fn := Tryz.f102) (p := 4) (ty := 79) rfl _ _ w.heap.size 79 _ (0, 0) _ rfl h4 Tryz.underlying79 rfl (by kernel_rfl)) rfl ?_
      exact ⟨by unfold acD; rw [HNO.out]; rfl, hb4 _ _ HB1.out (Nat.le_refl _)⟩

set_option maxHeartbeats 2000000 in
theorem r10kind_any (l : List Ac) (a : Option Addr) (cap : Nat) (c : Int) (w : World) {F : Nat → Prop} (hs : Sl tAc w F a l) (hl : l.length ≤ maxLen) :
    Calls Tryz.prog 37 #[.slice a l.length cap, .int .i64 c] w fun e w' => e = .returned (.int .i64 (kindA l c)) ∧ Below w.heap.size w w' := by
  have HC := Lib.hid (raccount_any l a cap c w hs hl)
  clear hs hl
  rw [kindA_D]
  go_enter Tryz.func37, Tryz.ntmps37
  go_wp2_with fail
  refine HC.out.mono ?_
  rintro e w1 ⟨rfl, hb⟩
  have HB := Lib.hid (hb.alloc hb.size (.cells #[.int .i64 (acD l c).code, .int .i64 (acD l c).kind, .bool (acD l c).ret] 79))
  clear hb
  go_wp2_with fail
  go_ret
  exact ⟨rfl, HB.out⟩
end Go.Proofs.YtgggpaacagbmcaaGreat
