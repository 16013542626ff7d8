/- variorumbook: copies of balances, lent ones, whether they stay. -/
import Derived.Test.YtacemlbfifhllaaGreatX18GatesPlay
import Derived.Test.YtacemlbfifhllaaGreatX08GatesPlay
import Derived.Laws.AppendOwnNone
import Derived.Test.YtacemlbfifhllaaGreatX15GatesPlay
import Derived.Test.YtacemlbfifhllaaGreatX10GatesPlay
import Derived.Test.YtacemlbfifhllaaGreatX16GatesPlay
import Derived.Test.YtacemlbfifhllaaGreatX17GatesPlay
set_option linter.unusedVariables false
set_option linter.unusedSimpArgs false
namespace Go.Proofs.YtacemlbfifhllaaGreat
open Go.RowKit Go.Maps

theorem OwnL.form {P : Program} {e : TypeId} {α : Type} {T : Ty P e α} {w : World} {base : Nat} {v : Value} {xs : List α} (h : OwnL T w base v xs) :
    (v = .slice none 0 0 ∧ xs = []) ∨ ∃ g cap, v = .slice (some ⟨g, 0, none⟩) xs.length cap ∧ xs.length ≤ cap ∧ cap ≤ maxLen := h.ownF.form
theorem form_snoc {P : Program} {e : TypeId} {α : Type} {T : Ty P e α} {w : World} {base : Nat} {v : Value} {xs : List α} {x : α} (h : OwnL T w base v (xs ++ [x])) : ∃ g c, v = .slice (some ⟨g, 0, none⟩) (xs.length + 1) c ∧ xs.length + 1 ≤ c ∧ c ≤ maxLen := by
  rcases h.form with ⟨_, h⟩ | ⟨g, c, h1, h2, h3⟩
  · simp at h
  · rw [List.length_append] at h1 h2
    exact ⟨g, c, h1, h2, h3⟩
theorem Sl.left {P : Program} {e : TypeId} {α : Type} {T : Ty P e α} {w : World} {F : Nat → Prop} {a : Option Addr} {xs ys : List α} (h : Sl T w F a (xs ++ ys)) : Sl T w F a xs := by
  intro i x hx
  exact h i x (by rw [List.getElem?_append_left (List.getElem?_eq_some_iff.1 hx).1]; exact hx)

/-- a list with room behind it, in which a mark stands -/
def LentB (w : World) (base : Nat) (v : Value) (l : List (Int × Int)) : Prop := ∃ g cap, v = .slice (some ⟨g, 0, none⟩) l.length cap ∧ l.length + 1 ≤ cap ∧ cap ≤ maxLen ∧ OwnL tBal w base (.slice (some ⟨g, 0, none⟩) (l.length + 1) cap) (l ++ [(77, 0)])
theorem LentB.below {w w' : World} {base : Nat} {v : Value} {l : List (Int × Int)} (h : LentB w base v l) (hb : Below w.heap.size w w') : LentB w' base v l := by
  obtain ⟨g, cap, h1, h2, h3, h4⟩ := h
  exact ⟨g, cap, h1, h2, h3, h4.below hb⟩

theorem sameBal_is (l m : List (Int × Int)) (a b : Option Addr) (ca cb : Nat) (w : World) {F G : Nat → Prop} (hs : Sl tBal w F a l) (ht : Sl tBal w G b m) (hl : l.length ≤ maxLen) (hm : m.length ≤ maxLen) (h : l = m) :
    Calls Tryz.prog 73 #[.slice a l.length ca, .slice b m.length cb] w fun e w' => e = .returned (.bool true) ∧ Below w.heap.size w w' := sameBal_any l m a b ca cb w hs ht hl hm (by simpa using h)

end Go.Proofs.YtacemlbfifhllaaGreat


/- Ranging over maps in a plain walk; append of a slice that may be nil. -/
set_option linter.unusedVariables false
set_option linter.unusedSimpArgs false
namespace Go.Proofs.YtacemlbfifhllaaGreat
open Go.RowKit Go.Maps

section
variable {P : Program} {t : TypeId} {κ ν : Type} {M : MK P t κ} {ev : ν → Value} {ops : Array Oper} {rest : List Oper} {o : Oper} {a : Act} {Q : Exit → Act → World → Prop} {w : World}
theorem wp_range (hg : o.guard = none) (m : Operand) (T : TypeId) (hop : o.op = Op.range T m) (e : TypeId) (ht : P.underlying T = some (.map t e)) (b : Nat) (l : List (κ × ν)) (hm : a.eval m = .map (some b)) (h : MapIs M ev w b l)
    (hK : ∀ w', Rng M ev w' b w.heap.size l [] → w.grownBy w' none → w'.heap.size = w.heap.size + 1 → wpList P ops Q rest (a.put o.dst (.pointer (some ⟨w.heap.size, 0, none⟩))) w') :
    wpList P ops Q (o :: rest) a w := by
  refine wpList_plain hg fun K' hK' => ?_
  obtain ⟨w', hrun, r1, r2, r3⟩ := h.range ht
  unfold Oper.wp
  simp [execOp, hop, hm, hrun, Result.andThen]
  exact hK' _ _ (hK w' r1 r2 r3)
theorem wp_next (hg : o.guard = none) (it : Operand) (hop : o.op = Op.next it false) (b r : Nat) (l : List (κ × ν)) (ss : List κ) (hit : a.eval it = .pointer (some ⟨r, 0, none⟩)) (h : Rng M ev w b r l ss)
    (hDone : ss.Perm (l.map (·.1)) → wpList P ops Q rest (a.put o.dst (.tuple #[.bool false])) w)
    (hMore : ∀ k v w', (k, v) ∈ l → Rng M ev w' b r l (ss ++ [k]) → w'.rangeLeft b r < w.rangeLeft b r → w.grownBy w' (some r) → w'.heap.size = w.heap.size →
      (Instr.entry (.pointer (some ⟨r, 0, none⟩))).run P w' = .ok (.tuple #[M.ek k, ev v]) w' → wpList P ops Q rest (a.put o.dst (.tuple #[.bool true, M.ek k, ev v])) w') :
    wpList P ops Q (o :: rest) a w := by
  refine wpList_plain hg fun K' hK' => ?_
  unfold Oper.wp
  rcases h.next o.type with ⟨h0, hrun⟩ | ⟨k, v, w', hkv, hrun, hrg, hlt, hgr, hsz, hen⟩
  · simp [execOp, hop, hit, hrun, Result.andThen]
    exact hK' _ _ (hDone h0)
  · simp [execOp, hop, hit, hrun, Result.andThen]
    exact hK' _ _ (hMore k v w' hkv hrg hlt hgr hsz hen)
end
section
variable {P : Program} {e : TypeId} {α : Type} {T : Ty P e α} {ops : Array Oper} {rest : List Oper} {o : Oper} {a : Act} {Q : Exit → Act → World → Prop} {w : World}
theorem wp_appA (hgd : o.guard = none) (s x : Operand) (t : TypeId) (ho : o.op = .call { callee := .builtin .append, args := #[s, x], argTypes := #[t, t] })
    (i : TypeInfo) (z : Value) (bytes : Nat) (ht : P.underlying t = some (.slice e)) (hi : P.info? e = some i) (hz : i.zero = some z) (hsize : i.size = T.n) (hby : i.bytes = bytes) (hzs : z.cells.size = T.n) (hsz : 0 < T.n)
    (h1c : ∀ (w : World) (F : Nat → Prop) (c : List Value) (x : α), T.R w F c x → ∀ u ∈ c, u.oneCell' = true)
    (base : Nat) (v : Value) (xs : List α) (hs : a.eval s = v) (hown : OwnL T w base v xs) (ad : Option Addr) (c : Nat) (ys : List α) (hx : a.eval x = .slice ad ys.length c) (hnil : ad = none → ys = [] ∧ c = 0)
    (hys : Sl T w (fun k => some k ≠ v.ownBlock ∧ k < w.heap.size) ad ys) (h63 : xs.length + ys.length ≤ maxLen) (hbytes : (xs.length + ys.length) * bytes ≤ 140737488355328) (hbase : base ≤ w.heap.size)
    (h : ∀ v' w', OwnL T w' base v' (xs ++ ys) → w.grownBy w' v.ownBlock → (v'.ownBlock = v.ownBlock ∨ v'.ownBlock = some w.heap.size) → wpList P ops Q rest (a.put o.dst v') w') :
    wpList P ops Q (o :: rest) a w := by
  cases ad with
  | some ad => exact wp_app hgd s x t ho i z bytes ht hi hz hsize hby hzs hsz h1c base v xs hs hown ad c ys hx hys h63 hbytes hbase (fun v' w' h1 h2 _ h4 => h v' w' h1 h2 h4)
  | none =>
    obtain ⟨rfl, rfl⟩ := hnil rfl
    obtain ⟨css, hr, h2⟩ := hown
    exact wpList_append_own_none hgd s x t ho base e i T.n ht hi v xs.length css.flatten hs hr hx (h v w (by rw [List.append_nil]; exact ⟨css, hr, h2⟩) ⟨rfl, rfl, rfl, Nat.le_refl _, fun _ _ _ => rfl⟩ (.inl rfl))
end
end Go.Proofs.YtacemlbfifhllaaGreat


/- Charts of the document: a row, an account, a kind, one more account. -/
set_option linter.unusedVariables false
set_option linter.unusedSimpArgs false
namespace Go.Proofs.YtacemlbfifhllaaGreat
open Go.RowKit Go.Maps Go.Deep

theorem three (w : World) (b : Nat) {t : TypeId} {x0 x1 x2 : Value} (h : w.heap[b]? = some (.cells #[x0, x1, x2] t (0, 0))) (v0 v1 v2 : Value) :
    ∃ w4, (((w.setCell ⟨b, 0, none⟩ v0).setCell ⟨b, 1, none⟩ v1).setCell ⟨b, 2, none⟩ v2) = w4 ∧ w4.heap[b]? = some (.cells #[v0, v1, v2] t (0, 0)) ∧ w4.heap.size = w.heap.size ∧
      (∀ k, k ≠ b → w4.heap[k]? = w.heap[k]?) ∧ (∀ B w0, Below B w0 w → B ≤ b → Below B w0 w4) := by
  refine ⟨_, rfl, ?_, by simp, fun k hk => ?_, fun B w0 hb hB => ?_⟩
  · have := blk_set (blk_set (blk_set h 0 v0) 1 v1) 2 v2
    simpa using this
  · iterate 3 (rw [Below.heap_setCell _ _ _ k hk])
  · iterate 3 (refine Below.setCell ?_ hB _)
    exact hb

def ac0 : Ac := ⟨0, 0, false⟩
def acD (l : List Ac) (c : Int) : Ac := (findA l c).getD ac0
theorem kindA_D (l : List Ac) (c : Int) : kindA l c = (acD l c).kind := by
  unfold kindA acD
  cases findA l c <;> rfl

end Go.Proofs.YtacemlbfifhllaaGreat


/- Charts: New, Get; a number in a list. -/
set_option linter.unusedVariables false
set_option linter.unusedSimpArgs false
namespace Go.Proofs.YtacemlbfifhllaaGreat
open Go.RowKit Go.Maps Go.Deep

theorem zeroA (w : World) : (zeroValue 128).run Tryz.prog w = .ok (acv ac0) w := by kernel_rfl
end Go.Proofs.YtacemlbfifhllaaGreat


/- money: take, tell, Add; trial.Sum. -/
set_option linter.unusedVariables false
set_option linter.unusedSimpArgs false
namespace Go.Proofs.YtacemlbfifhllaaGreat
open Go.RowKit Go.Maps

theorem quo_rem (a : Int) (h1 : -1000000000000000 ≤ a) (h2 : a ≤ 1000000000000000) : ∃ q r : Int, a.tdiv 1000000000 = q ∧ a.tmod 1000000000 = r ∧ a = q * 1000000000 + r ∧ -1000000000 < r ∧ r < 1000000000 ∧ -1000000 ≤ q ∧ q ≤ 1000000 := by
  refine ⟨_, _, rfl, rfl, ?_⟩
  rcases Int.le_total 0 a with h | h
  · rw [Int.tdiv_eq_ediv_of_nonneg h, Int.tmod_eq_emod_of_nonneg h]
    omega
  · obtain ⟨b, rfl⟩ : ∃ b, a = -b := ⟨-a, by omega⟩
    rw [Int.neg_tdiv, Int.neg_tmod, Int.tdiv_eq_ediv_of_nonneg (by omega), Int.tmod_eq_emod_of_nonneg (by omega)]
    omega
theorem quo_rem2 (a : Int) (h1 : -2000000000 < a) (h2 : a < 2000000000) : ∃ q r : Int, a.tdiv 1000000000 = q ∧ a.tmod 1000000000 = r ∧ a = q * 1000000000 + r ∧ -1000000000 < r ∧ r < 1000000000 ∧ -1 ≤ q ∧ q ≤ 1 := by
  refine ⟨_, _, rfl, rfl, ?_⟩
  rcases Int.le_total 0 a with h | h
  · rw [Int.tdiv_eq_ediv_of_nonneg h, Int.tmod_eq_emod_of_nonneg h]
    omega
  · obtain ⟨b, rfl⟩ : ∃ b, a = -b := ⟨-a, by omega⟩
    rw [Int.neg_tdiv, Int.neg_tmod, Int.tdiv_eq_ediv_of_nonneg (by omega), Int.tmod_eq_emod_of_nonneg (by omega)]
    omega

def fitS (s : Int) : Int × Int := if fitsB s then (s, 0) else (0, 2)
def sumI : List Int → Int
  | [] => 0
  | x :: r => x + sumI r
theorem sumI_app : ∀ (a b : List Int), sumI (a ++ b) = sumI a + sumI b
  | [], b => by simp [sumI]
  | x :: r, b => by simp only [List.cons_append, sumI, sumI_app r b]; omega
theorem sumI_succ (l : List Int) (n : Nat) (hn : n < l.length) : sumI (l.take (n + 1)) = sumI (l.take n) + l[n] := by
  rw [List.take_succ_eq_append_getElem hn, sumI_app]; simp [sumI]
def addM (l : List Int) : Int × Int := if l.all fitsB then fitS (sumI l) else (0, 2)
theorem int_one (w : World) (F : Nat → Prop) (c : List Value) (x : Int) (h : tInt.R w F c x) : ∀ u ∈ c, u.oneCell' = true := by
  obtain ⟨rfl, _⟩ := h
  simp [Value.oneCell']
theorem int_free (w : World) (F G : Nat → Prop) (c : List Value) (x : Int) (h : tInt.R w F c x) : tInt.R w G c x := h
theorem sl_oneI {w : World} {F : Nat → Prop} {b : Nat} {x : Int} (hb : w.heap[b]? = some (.cells #[.int .i64 x] 3 (0, 0))) (hF : F b) (hx : I64 x) : Sl tInt w F (some ⟨b, 0, none⟩) [x] := by
  intro i y hi
  cases i with
  | succ i => simp at hi
  | zero =>
    simp at hi
    subst hi
    refine ⟨_, [.int .i64 x], rfl, hF, (Array.getElem?_eq_some_iff.1 hb).1, fun k u hu => ?_, rfl, hx⟩
    rw [Nat.zero_mul, Go.Addr.add_add, Nat.zero_add]
    have : (⟨b, 0, none⟩ : Addr).add k = ⟨b, k, none⟩ := by unfold Addr.add; split <;> simp_all
    rw [this, cell_of_row w b k _ 3 (0, 0) hb]
    simpa using hu

end Go.Proofs.YtacemlbfifhllaaGreat
