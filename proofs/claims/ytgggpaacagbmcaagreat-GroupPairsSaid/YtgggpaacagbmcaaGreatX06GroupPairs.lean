/- Plain: two members that have something with each other, on both sides alike. -/
import Derived.Test.YtgggpaacagbmcaaGreatX05GroupPairs
import Derived.Test.YtgggpaacagbmcaaGreatX39GroupTells
import Derived.Test.YtgggpaacagbmcaaGreatX46GroupTells
set_option linter.unusedVariables false
set_option linter.unusedSimpArgs false
namespace Go.Proofs.YtgggpaacagbmcaaGreat
open Go.RowKit Go.Maps Go.Deep

def jA (a p : Int) : Jn := ⟨1, 1, p, ⟨#[]⟩, [⟨1, a, 2⟩, ⟨3, -a, 0⟩], false⟩
def jB (a p : Int) : Jn := ⟨2, 2, p, ⟨#[]⟩, [⟨3, a, 0⟩, ⟨2, -a, 1⟩], false⟩
def rG : List Ac := [⟨1, 1, false⟩, ⟨2, 2, false⟩, ⟨3, 1, false⟩]
def mG (e : Int) : Mb := ⟨e, 10000, 1000000, 1000000, 1000000⟩
theorem setG : setR rG = rG := by decide +kernel
theorem monthOk_lo {p : Int} (h : monthOk p = true) : 0 ≤ p := by
  unfold monthOk at h
  simp at h
  omega
theorem jA_chk {a p : Int} (h1 : 1 ≤ a) (h2 : a ≤ 1099511627776) (hp : monthOk p = true) : chk (jA a p) = 0 := by
  have e1 : frontBad (jA a p) = false := by unfold frontBad jA; simp [hp]; decide
  have e2 : refOk (jA a p).ref = true := rfl
  have e3 : (jA a p).lines.any (rowBad (jA a p).en) = false := by simp [jA, rowBad]; omega
  have e4 : (jA a p).lines.any (fun l => !fitsB l.amt) = false := by simp [jA, fitsB]; omega
  have e5 : (sumA (jA a p).lines != 0) = false := by simp [jA, sumA]; omega
  unfold chk
  rw [e1, e2, e3, e4, e5]
  rfl
theorem jB_chk {a p : Int} (h1 : 1 ≤ a) (h2 : a ≤ 1099511627776) (hp : monthOk p = true) : chk (jB a p) = 0 := by
  have e1 : frontBad (jB a p) = false := by unfold frontBad jB; simp [hp]; decide
  have e2 : refOk (jB a p).ref = true := rfl
  have e3 : (jB a p).lines.any (rowBad (jB a p).en) = false := by simp [jB, rowBad]; omega
  have e4 : (jB a p).lines.any (fun l => !fitsB l.amt) = false := by simp [jB, fitsB]; omega
  have e5 : (sumA (jB a p).lines != 0) = false := by simp [jB, sumA]; omega
  unfold chk
  rw [e1, e2, e3, e4, e5]
  rfl
theorem fitG {a p : Int} (h1 : 1 ≤ a) (h2 : a ≤ 1099511627776) (hp : monthOk p = true) : fitJ 40 [jA a p, jB a p] = [jA a p, jB a p] := by
  have p1 : postJ [] (jA a p) = 0 := post_mk (jA_chk h1 h2 hp) rfl (by simp [takenJ, jA]) (by simp)
  have p2 : postJ [jA a p] (jB a p) = 0 := post_mk (jB_chk h1 h2 hp) rfl (by simp [takenJ, jB]) (by simp)
  have q1 : fitStep 40 [] (jA a p) = [jA a p] := by
    unfold fitStep
    rw [p1]
    rfl
  have q2 : fitStep 40 [jA a p] (jB a p) = [jA a p, jB a p] := by
    unfold fitStep
    rw [p2]
    rfl
  unfold fitJ
  simp only [List.foldl_cons, List.foldl_nil]
  rw [q1, q2]
theorem valG {a p : Int} (h1 : 1 ≤ a) (h2 : a ≤ 1099511627776) (hp : monthOk p = true) : ValJ [jA a p, jB a p] := by
  have := fit_val 40 [jA a p, jB a p]
  rwa [fitG h1 h2 hp] at this
theorem linG1 {a p : Int} (hp : monthOk p = true) : linesOf [jA a p, jB a p] 1 0 p = [⟨1, a, 2⟩, ⟨3, -a, 0⟩] := by
  have := monthOk_lo hp
  simp [linesOf, cnt, jA, jB, this]
theorem linG2 {a p : Int} (hp : monthOk p = true) : linesOf [jA a p, jB a p] 2 0 p = [⟨3, a, 0⟩, ⟨2, -a, 1⟩] := by
  have := monthOk_lo hp
  simp [linesOf, cnt, jA, jB, this]
theorem one_refS (k v : Int) (h0 : v ≠ 0) (hf : fitsB v = true) : plainT (refS [⟨k, v, 0⟩]) = ([(k, v)], true) := by
  have e : refS [⟨k, v, 0⟩] = [(k, v)] := by
    unfold refS
    simp only [List.foldl_cons, List.foldl_nil, putL_is]
    rfl
  rw [e]
  simp [plainT, hf, nzB, h0]
theorem mG_is (e : Int) : mG e = oneM e 10000 := rfl
theorem trnG {k v : Int} (e : Int) (h0 : v ≠ 0) (hf : fitsB v = true) : trnT rG (mG e) [(k, v)] = (([(k, v)], -v), 0) := by
  obtain ⟨t1, t2⟩ := trn_one rG e 10000 (l := [(k, v)]) (fun x hx => by rw [List.mem_singleton.1 hx]; exact hf) (fun x hx => by rw [List.mem_singleton.1 hx]; exact h0)
  have ha : addM [v] = (v, 0) := by
    rw [all_fitS (by simp [hf])]
    rcases fit_cases v with ⟨_, d⟩ | ⟨c, _⟩
    · simpa [sumI] using d
    · rw [c] at hf; cases hf
  unfold trnT
  rw [mG_is, t1, t2]
  simp [ha]
theorem fitG_a {a : Int} (h1 : 1 ≤ a) (h2 : a ≤ 1099511627776) : fitsB a = true ∧ fitsB (-a) = true := by
  unfold fitsB
  simp
  omega
theorem memG1 {a p : Int} (h1 : 1 ≤ a) (h2 : a ≤ 1099511627776) (hp : monthOk p = true) : memE rG [mG 1, mG 2] [jA a p, jB a p] p (mG 1) = 0 ∧ memP rG [mG 1, mG 2] [jA a p, jB a p] p (mG 1) = ⟨[(3, -a)], 0, a, 0⟩ := by
  obtain ⟨f1, f2⟩ := fitG_a h1 h2
  have hl : linT [mG 1, mG 2] [jA a p, jB a p] (mG 1).en p = (([(3, -a)], a), 0) := by
    have h := (doc_lin (ms := [mG 1, mG 2]) (J := [jA a p, jB a p]) (e := 1) (p := p) (by rw [linG1 hp]; simp; omega) (by rw [linG1 hp]; simp)).1
    have eo : outL [mG 1, mG 2] (linesOf [jA a p, jB a p] 1 0 p) = [⟨3, -a, 0⟩] := by rw [linG1 hp]; simp [outL, innB, mG]
    have ei : inL [mG 1, mG 2] (linesOf [jA a p, jB a p] 1 0 p) = [⟨1, a, 2⟩] := by rw [linG1 hp]; simp [inL, innB, mG]
    rw [eo, ei, one_refS 3 (-a) (by omega) f2] at h
    have := h rfl (by simpa [sumA] using f1)
    show linT _ _ 1 p = _
    simpa [sumA] using this
  have ht := trnG (k := 3) 1 (v := -a) (by omega) f2
  have hs : scaleT a (mG 1).cl 1000000 = (a, 0) := scale_same f1 (by decide)
  have hsh : ([((3 : Int), -a)].filter (shrB rG)) = [] := by
    have : shrB rG (3, -a) = false := rfl
    simp [this]
  obtain ⟨_, _, d3⟩ := doc_mem hl ht hs (al := 0) (net := a) (by simp [sumI]; omega) (by rw [hsh]; simp [sumI])
  obtain ⟨q1, q2⟩ := d3 rfl f1
  have hx : scaleT a (10000 - (mG 1).sh) 10000 = (0, 0) := scale_none a (by decide)
  rw [hx] at q1 q2
  exact ⟨q1, by rw [q2]; rfl⟩
theorem memG2 {a p : Int} (h1 : 1 ≤ a) (h2 : a ≤ 1099511627776) (hp : monthOk p = true) : memE rG [mG 1, mG 2] [jA a p, jB a p] p (mG 2) = 0 ∧ memP rG [mG 1, mG 2] [jA a p, jB a p] p (mG 2) = ⟨[(3, a)], 0, -a, 0⟩ := by
  obtain ⟨f1, f2⟩ := fitG_a h1 h2
  have hl : linT [mG 1, mG 2] [jA a p, jB a p] (mG 2).en p = (([(3, a)], -a), 0) := by
    have h := (doc_lin (ms := [mG 1, mG 2]) (J := [jA a p, jB a p]) (e := 2) (p := p) (by rw [linG2 hp]; simp; omega) (by rw [linG2 hp]; simp)).1
    have eo : outL [mG 1, mG 2] (linesOf [jA a p, jB a p] 2 0 p) = [⟨3, a, 0⟩] := by rw [linG2 hp]; simp [outL, innB, mG]
    have ei : inL [mG 1, mG 2] (linesOf [jA a p, jB a p] 2 0 p) = [⟨2, -a, 1⟩] := by rw [linG2 hp]; simp [inL, innB, mG]
    rw [eo, ei, one_refS 3 a (by omega) f1] at h
    have := h rfl (by simpa [sumA] using f2)
    show linT _ _ 2 p = _
    simpa [sumA] using this
  have ht := trnG (k := 3) 2 (v := a) (by omega) f1
  have hs : scaleT (-a) (mG 2).cl 1000000 = (-a, 0) := scale_same f2 (by decide)
  have hsh : ([((3 : Int), a)].filter (shrB rG)) = [] := by
    have : shrB rG (3, a) = false := rfl
    simp [this]
  obtain ⟨_, _, d3⟩ := doc_mem hl ht hs (al := 0) (net := -a) (by simp [sumI]; omega) (by rw [hsh]; simp [sumI])
  obtain ⟨q1, q2⟩ := d3 rfl f2
  have hx : scaleT (-a) (10000 - (mG 2).sh) 10000 = (0, 0) := scale_none (-a) (by decide)
  rw [hx] at q1 q2
  exact ⟨q1, by rw [q2]; rfl⟩
theorem makG {a p : Int} (h1 : 1 ≤ a) (h2 : a ≤ 1099511627776) (hp : monthOk p = true) : makT rG [mG 1, mG 2] [jA a p, jB a p] p = (grp0, 0) := by
  obtain ⟨e1, m1⟩ := memG1 h1 h2 hp
  obtain ⟨e2, m2⟩ := memG2 h1 h2 hp
  have hg : grpB [mG 1, mG 2] = true := by decide +kernel
  have hm : makT rG [mG 1, mG 2] [jA a p, jB a p] p = grpT rG [mG 1, mG 2] [jA a p, jB a p] p := by
    unfold makT
    rw [hg, hp]
    rfl
  have hX : docX [⟨[(3, -a)], 0, a, 0⟩, ⟨[(3, a)], 0, -a, 0⟩] = [(3, -a), (3, a)] := rfl
  have hr : plainT (refP [((3 : Int), -a), (3, a)]) = ([], true) := by
    have e : refP [((3 : Int), -a), (3, a)] = [(3, -a + a)] := by
      unfold refP
      simp only [List.foldl_cons, List.foldl_nil, putL_is]
      rfl
    rw [e, show -a + a = 0 by omega]
    rfl
  have q1 : qSum (kB rG [1]) [((3 : Int), -a), (3, a)] = 0 := by
    rw [qSum_cons, qSum_cons]
    have : kB rG [1] 3 = true := rfl
    simp only [this, if_true]
    simp [qSum, sumI]
    omega
  have q2 : qSum (kB rG [2]) [((3 : Int), -a), (3, a)] = 0 := by
    rw [qSum_cons, qSum_cons]
    have : kB rG [2] 3 = false := rfl
    simp [this, qSum, sumI]
  have hd : docT rG [mG 1, mG 2] [jA a p, jB a p] p = (grp0, true) := by
    have hG : docG rG [⟨[(3, -a)], 0, a, 0⟩, ⟨[(3, a)], 0, -a, 0⟩] = grp0 := by
      unfold docG
      rw [hX, hr, q1, q2]
      simp only [List.map_cons, List.map_nil, sumI]
      unfold grp0
      congr 1
      omega
    have hF : docF rG [⟨[(3, -a)], 0, a, 0⟩, ⟨[(3, a)], 0, -a, 0⟩] = true := by
      unfold docF
      rw [hG, hX, hr]
      rfl
    unfold docT
    simp only [List.all_cons, List.all_nil, List.map_cons, List.map_nil, e1, e2, m1, m2, hF, hG]
    rfl
  rw [hm, doc_grp, hd]
  rfl
/-- the first member alone -/
theorem memG0 {a p : Int} (h1 : 1 ≤ a) (h2 : a ≤ 1099511627776) (hp : monthOk p = true) : memE rG [mG 1] [jA a p, jB a p] p (mG 1) = 0 ∧ memP rG [mG 1] [jA a p, jB a p] p (mG 1) = ⟨[(1, a), (3, -a)], 0, 0, 0⟩ := by
  obtain ⟨f1, f2⟩ := fitG_a h1 h2
  have hl : linT [mG 1] [jA a p, jB a p] (mG 1).en p = (([(1, a), (3, -a)], 0), 0) := by
    have h := (doc_lin (ms := [mG 1]) (J := [jA a p, jB a p]) (e := 1) (p := p) (by rw [linG1 hp]; simp; omega) (by rw [linG1 hp]; simp)).1
    have eo : outL [mG 1] (linesOf [jA a p, jB a p] 1 0 p) = [⟨1, a, 2⟩, ⟨3, -a, 0⟩] := by rw [linG1 hp]; simp [outL, innB, mG]
    have ei : inL [mG 1] (linesOf [jA a p, jB a p] 1 0 p) = [] := by rw [linG1 hp]; simp [inL, innB, mG]
    have er : plainT (refS [⟨1, a, 2⟩, ⟨3, -a, 0⟩]) = ([(1, a), (3, -a)], true) := by
      have e : refS [⟨1, a, 2⟩, ⟨3, -a, 0⟩] = [(1, a), (3, -a)] := by
        unfold refS
        simp only [List.foldl_cons, List.foldl_nil, putL_is]
        rfl
      have n1 : a ≠ 0 := by omega
      rw [e]
      simp [plainT, f1, f2, nzB, n1]
    rw [eo, ei, er] at h
    have := h rfl rfl
    show linT _ _ 1 p = _
    simpa [sumA] using this
  obtain ⟨t1, t2⟩ := trn_one rG 1 10000 (l := [((1 : Int), a), (3, -a)]) (fun x hx => by simp at hx; rcases hx with rfl | rfl; exact f1; exact f2) (fun x hx => by simp at hx; rcases hx with rfl | rfl; (show a ≠ 0; omega); (show -a ≠ 0; omega))
  have ha : addM [a, -a] = (0, 0) := by
    rw [all_fitS (by simp [f1, f2])]
    simp only [sumI, show a + (-a + 0) = 0 by omega]
    rfl
  have ht : trnT rG (mG 1) [((1 : Int), a), (3, -a)] = (([(1, a), (3, -a)], 0), 0) := by
    unfold trnT
    rw [mG_is, t1, t2]
    simp [ha]
  have hs : scaleT 0 (mG 1).cl 1000000 = (0, 0) := scale_same rfl (by decide)
  have hsh : ([((1 : Int), a), (3, -a)].filter (shrB rG)) = [] := by
    have e1 : shrB rG (1, a) = false := rfl
    have e2 : shrB rG (3, -a) = false := rfl
    simp [e1, e2]
  obtain ⟨_, _, d3⟩ := doc_mem hl ht hs (al := 0) (net := 0) (by simp [sumI]; omega) (by rw [hsh]; simp [sumI])
  obtain ⟨q1, q2⟩ := d3 rfl rfl
  have hx : scaleT 0 (10000 - (mG 1).sh) 10000 = (0, 0) := scale_none 0 (by decide)
  rw [hx] at q1 q2
  exact ⟨q1, by rw [q2]; rfl⟩
theorem makG0 {a p : Int} (h1 : 1 ≤ a) (h2 : a ≤ 1099511627776) (hp : monthOk p = true) : makT rG [mG 1] [jA a p, jB a p] p = (⟨[(1, a), (3, -a)], 0, 0, 0, 0, 0, 0⟩, 0) := by
  obtain ⟨f1, f2⟩ := fitG_a h1 h2
  obtain ⟨e1, m1⟩ := memG0 h1 h2 hp
  have hg : grpB [mG 1] = true := by decide +kernel
  have hm : makT rG [mG 1] [jA a p, jB a p] p = grpT rG [mG 1] [jA a p, jB a p] p := by
    unfold makT
    rw [hg, hp]
    rfl
  have hX : docX [⟨[(1, a), (3, -a)], 0, 0, 0⟩] = [(1, a), (3, -a)] := rfl
  have hr : plainT (refP [((1 : Int), a), (3, -a)]) = ([(1, a), (3, -a)], true) := by
    have e : refP [((1 : Int), a), (3, -a)] = [(1, a), (3, -a)] := by
      unfold refP
      simp only [List.foldl_cons, List.foldl_nil, putL_is]
      rfl
    have n1 : a ≠ 0 := by omega
    rw [e]
    simp [plainT, f1, f2, nzB, n1]
  have q1 : qSum (kB rG [1]) [((1 : Int), a), (3, -a)] = 0 := by
    rw [qSum_cons, qSum_cons]
    have e1 : kB rG [1] 1 = true := rfl
    have e3 : kB rG [1] 3 = true := rfl
    simp only [e1, e3, if_true]
    simp [qSum, sumI]
    omega
  have q2 : qSum (kB rG [2]) [((1 : Int), a), (3, -a)] = 0 := by
    rw [qSum_cons, qSum_cons]
    have e1 : kB rG [2] 1 = false := rfl
    have e3 : kB rG [2] 3 = false := rfl
    simp [e1, e3, qSum, sumI]
  have hG : docG rG [⟨[(1, a), (3, -a)], 0, 0, 0⟩] = ⟨[(1, a), (3, -a)], 0, 0, 0, 0, 0, 0⟩ := by
    unfold docG
    rw [hX, hr, q1, q2]
    rfl
  have hF : docF rG [⟨[(1, a), (3, -a)], 0, 0, 0⟩] = true := by
    unfold docF
    rw [hG, hX, hr]
    rfl
  have hd : docT rG [mG 1] [jA a p, jB a p] p = (⟨[(1, a), (3, -a)], 0, 0, 0, 0, 0, 0⟩, true) := by
    unfold docT
    simp only [List.all_cons, List.all_nil, List.map_cons, List.map_nil, e1, m1, hF, hG]
    rfl
  rw [hm, doc_grp, hd]
  rfl
/-- what the two have with each other comes to 0 -/
theorem allG {a p : Int} (hp : monthOk p = true) : allP [mG 1, mG 2] p [jA a p, jB a p] = [((1, 2), a), ((1, 2), -a)] := by
  have e1 : jnP [mG 1, mG 2] p (jA a p) = [((1, 2), a)] := by
    simp [jnP, jnB, jA, lnP, innB, mG, pkey]
    decide
  have e2 : jnP [mG 1, mG 2] p (jB a p) = [((1, 2), -a)] := by
    simp [jnP, jnB, jB, lnP, innB, mG, pkey]
    decide
  unfold allP
  simp only [List.flatMap_cons, List.flatMap_nil, e1, e2]
  rfl
def lG : List F10 := [(⟨1, by decide⟩, ⟨2, by decide⟩)]
theorem accG {a p : Int} (h1 : 1 ≤ a) (h2 : a ≤ 1099511627776) (hp : monthOk p = true) : accQ [] (allP [mG 1, mG 2] p [jA a p, jB a p]) = [((1, 2), 0)] := by
  rw [allG hp]
  unfold accQ
  simp only [List.foldl_cons, List.foldl_nil]
  have w1 : IntKind.i64.wrap (valQ [] (1, 2) + a) = a := by
    rw [show valQ [] (1, 2) = 0 from rfl, wrap_is (by omega) (by omega)]
    omega
  have e1 : ins ([] : GsQ) (1, 2) (IntKind.i64.wrap (valQ [] (1, 2) + a)) = [((1, 2), a)] := by rw [w1]; rfl
  rw [e1]
  have w2 : IntKind.i64.wrap (valQ [((1, 2), a)] (1, 2) + -a) = 0 := by
    rw [show valQ [((1, 2), a)] (1, 2) = a from rfl, wrap_is (by omega) (by omega)]
    omega
  rw [w2]
  rfl
theorem innG {a p : Int} (h1 : 1 ≤ a) (h2 : a ≤ 1099511627776) (hp : monthOk p = true) : (accQ [] (allP [mG 1, mG 2] p [jA a p, jB a p])).map (·.1) = lG.map zF ∧ innT [mG 1, mG 2] p [jA a p, jB a p] ((srtF lG).map zF) = ([], 0) := by
  have hs : srtF lG = lG := by
    unfold srtF lG
    simp
  refine ⟨by rw [accG h1 h2 hp]; rfl, ?_⟩
  rw [hs]
  unfold innT
  rw [accG h1 h2 hp]
  rfl
end Go.Proofs.YtgggpaacagbmcaaGreat
