/- book.Of, law6.Of at journals in the order of their numbers. -/
import Derived.Test.YtgggpaacagbmcaaGreatX09GroupTells
import Derived.Test.YtgggpaacagbmcaaGreatX02GroupTells
import Derived.Test.YtgggpaacagbmcaaGreatX01GroupTells
import Derived.Maps.Range
import Derived.Sort.MapsRangeIn
import Derived.RangeFuncSeq
import Derived.RangeFuncGives
set_option linter.unusedVariables false
set_option linter.unusedSimpArgs false
namespace Go.Proofs.YtgggpaacagbmcaaGreat
open Go.RowKit Go.Maps

def IncJ (l : List Jn) : Prop := ∀ i k (hi : i < l.length) (hk : k < l.length), i < k → l[i].id < l[k].id
def ofFrom : List Jn → List Jn → Bool
  | _, [] => true
  | d, x :: r => postJ d x == 0 && ofFrom (d ++ [x]) r
def ofB (l : List Jn) : Bool := ofFrom [] l

theorem ofFrom_step {l : List Jn} {n : Nat} (h : n < l.length) : ofFrom (l.take n) (l.drop n) = (postJ (l.take n) l[n] == 0 && ofFrom (l.take (n + 1)) (l.drop (n + 1))) := by
  rw [List.drop_eq_getElem_cons h, ofFrom, List.take_succ_eq_append_getElem h]

theorem ordJ_step {l : List Jn} (hi : IncJ l) {n : Nat} (h : n < l.length) (hO : OrdJ (l.take n)) (hc : postJ (l.take n) l[n] = 0) : OrdJ (l.take (n + 1)) := by
  have hk : chk l[n] = 0 := by
    rcases post_cases (l.take n) l[n] with ⟨h1, h2⟩ | ⟨h1, _⟩
    · rw [hc] at h2; exact h2.symm
    · simpa using h1
  refine ⟨fun i k h1 h2 hik => ?_, fun x hx => ?_⟩
  · simp only [List.length_take] at h1 h2
    rw [List.getElem_take, List.getElem_take]
    exact hi i k (by omega) (by omega) hik
  · rw [List.take_succ_eq_append_getElem h] at hx
    rcases List.mem_append.1 hx with hx | hx
    · exact hO.ok x hx
    · simp at hx
      subst hx
      exact ⟨(chk_id hk).1, (chk_id hk).2.1⟩
theorem inc_new {l : List Jn} (hi : IncJ l) {n : Nat} (h : n < l.length) : ∀ x ∈ l.take n, x.id < l[n].id := by
  intro x hx
  obtain ⟨t, ht, rfl⟩ := List.getElem_of_mem hx
  simp only [List.length_take] at ht
  rw [List.getElem_take]
  exact hi t n (by omega) h (by omega)

def OfPost (w : World) (l : List Jn) (e : Ending) (w' : World) : Prop :=
  ((ofB l = true ∧ ∃ g a c, e = .returned (.tuple #[.pointer (some ⟨g, 0, none⟩), .int .i64 0]) ∧ w.heap.size ≤ g ∧ BookAt w' g a c l (fun k => w.heap.size ≤ k)) ∨
   (ofB l = false ∧ ∃ x : Int, (x != 0) = true ∧ e = .returned (.tuple #[.pointer none, .int .i64 x]))) ∧ Below w.heap.size w w'

set_option maxHeartbeats 8000000 in
set_option maxRecDepth 100000 in
theorem bof_any (l : List Jn) (a : Option Addr) (cap : Nat) (w : World) {F : Nat → Prop} (hs : Sl tJn w F a l) (hl : l.length ≤ 1000) (hinc : IncJ l) :
    Calls Tryz.prog 88 #[.slice a l.length cap] w (OfPost w l) := by
  have HS := Lib.hid hs
  have HI := Lib.hid hinc
  clear hs hinc
  have hz : (w.alloc (.cells #[.slice none 0 0] 188)).heap[w.heap.size]? = some (.cells #[.slice none 0 0] 188 (0, 0)) := blk_new w _
  have HB := Lib.hid ((Below.refl w.heap.size w).alloc (Nat.le_refl _) (.cells #[.slice none 0 0] 188))
  have H0 : Hid (BookOwn (w.alloc (.cells #[.slice none 0 0] 188)) w.heap.size w.heap.size (.slice none 0 0) []) := Lib.hid ⟨hz, Nat.le_refl _, OwnF.nil _ _ _⟩
  clear hz
  go_enter Tryz.func88, Tryz.ntmps88
  go_wp2_with fail
  go_loopw [15] (fun vi wr => ∃ (n : Nat) (v : Value), n ≤ l.length ∧ vi = .int .i64 n ∧ BookOwn wr w.heap.size w.heap.size v (l.take n) ∧ Below w.heap.size w wr ∧ OrdJ (l.take n) ∧ Hid (ofFrom (l.take n) (l.drop n) = ofB l)) (fun vi _ => l.length - (intOf vi).toNat)
  case atStart => exact ⟨0, _, Nat.zero_le _, rfl, H0.out, HB.out, ⟨fun i k h => by simp at h, fun x hx => by simp at hx⟩, Lib.hid rfl⟩
  case round =>
    obtain ⟨n, v, hn, rfl, hbk, hb, hO, hof⟩ := hrel
    have HK := Lib.hid hbk
    have HB1 := Lib.hid hb
    have HO := Lib.hid hO
    clear hbk hb hO H0
    by_cases hlt : n < l.length
    · obtain ⟨ad, la, lc, rfl, _, hadl, hc0, hc1, hc2, hc3, hc4, hc5, hr⟩ := jn_at (Sl.keep (fun k hk _ => HB1.out.block k hk) HS.out) n hlt
      have HR := Lib.hid (tJn.keep (w' := wr.alloc (.cells #[.int .i64 l[n].id, .int .i64 l[n].en, .int .i64 l[n].pe, .string l[n].ref, .slice la l[n].lines.length lc, .bool l[n].void] 81)) (fun k hk _ => Below.heap_alloc wr _ k hk) hr)
      have HBK : Hid (BookOwn (wr.alloc (.cells #[.int .i64 l[n].id, .int .i64 l[n].en, .int .i64 l[n].pe, .string l[n].ref, .slice la l[n].lines.length lc, .bool l[n].void] 81)) w.heap.size w.heap.size v (l.take n)) := Lib.hid (HK.out.below ((Below.refl _ _).alloc (Nat.le_refl _) _))
      have HBA := Lib.hid (HB1.out.alloc HB1.out.size (.cells #[.int .i64 l[n].id, .int .i64 l[n].en, .int .i64 l[n].pe, .string l[n].ref, .slice la l[n].lines.length lc, .bool l[n].void] 81))
      have HNEW := Lib.hid (inc_new HI.out hlt)
      have HSTEP := Lib.hid (ofFrom_step hlt)
      have hlen : (l.take n).length ≤ 1000 := by rw [List.length_take]; omega
      generalize hp : postJ (l.take n) l[n] = p
      have HP := Lib.hid hp
      clear hr hp
      go_wp2_with fail
      refine (post_end HBK.out HBA.out.size hlen HO.out l[n] la lc HR.out HNEW.out).mono ?_
      rintro e w2 ⟨rfl, hb, h1, h2⟩
      rw [HP.out] at h1 h2
      have HB2 := Lib.hid (HBA.out.trans hb)
      clear hb hc0 hc1 hc2 hc3 hc4 hc5 hadl
      by_cases hp0 : p = 0
      · subst hp0
        obtain ⟨v2, hk2⟩ := h2 rfl
        have HK2 := Lib.hid hk2
        have hpp := HP.out
        clear h1 h2 hk2
        rw [HP.out]
        clear hpp
        go_wp2_with fail
        go_roundw
        case rel => exact ⟨n + 1, v2, by omega, by go_num, by rw [List.take_succ_eq_append_getElem hlt]; exact HK2.out, HB2.out, ordJ_step HI.out hlt HO.out HP.out, Lib.hid (by rw [← hof.out, HSTEP.out, HP.out]; simp)⟩
        case measure => simp [intOf]; omega
      · have hq : (p != 0) = true := by simpa using hp0
        have HF : Hid (ofB l = false) := Lib.hid (by rw [← hof.out, HSTEP.out, HP.out]; simp [hp0])
        clear h1 h2
        rw [HP.out]
        go_wp2_with fail
        go_ret2
        exact ⟨.inr ⟨HF.out, p, hq, rfl⟩, HB2.out⟩
    · have HT : Hid (ofB l = true) := Lib.hid (by rw [← hof.out, List.drop_eq_nil_of_le (by omega)]; rfl)
      have HL : Hid (l.take n = l) := Lib.hid (take_all hn hlt)
      go_wp2_with fail
      go_ret2
      obtain ⟨a', c', rfl, hat⟩ := HK.out.at_
      rw [HL.out] at hat
      exact ⟨.inl ⟨HT.out, w.heap.size, a', c', rfl, Nat.le_refl _, hat⟩, HB1.out⟩

def LOf (w : World) (l : List Jn) (e : Ending) (w' : World) : Prop :=
  (ofB l = true → ∃ g a c, e = .returned (.pointer (some ⟨g, 0, none⟩)) ∧ w.heap.size ≤ g ∧ BookAt w' g a c l (fun k => w.heap.size ≤ k)) ∧ (ofB l = false → e = .returned (.pointer none)) ∧ Below w.heap.size w w'

theorem lof_any (l : List Jn) (a : Option Addr) (cap : Nat) (w : World) {F : Nat → Prop} (hs : Sl tJn w F a l) (hl : l.length ≤ 1000) (hinc : IncJ l) :
    Calls Tryz.prog 26 #[.slice a l.length cap] w (LOf w l) := by
  have HC := Lib.hid (bof_any l a cap w hs hl hinc)
  clear hs hinc
  go_enter Tryz.func26, Tryz.ntmps26
  go_wp2_with fail
  refine HC.out.mono ?_
  rintro e w' ⟨⟨ht, g, a', c', rfl, hg, hat⟩ | ⟨hf, x, hx, rfl⟩, hb⟩
  · have HT := Lib.hid ht
    have HA := Lib.hid hat
    clear ht hat
    go_wp2_with fail
    go_ret
    exact ⟨fun _ => ⟨g, a', c', rfl, hg, HA.out⟩, fun h => (by rw [HT.out] at h; cases h), hb⟩
  · have HF := Lib.hid hf
    clear hf
    go_wp2_with fail
    go_ret
    exact ⟨fun h => (by rw [HF.out] at h; cases h), fun _ => rfl, hb⟩

theorem lof_yes (l : List Jn) (a : Option Addr) (cap : Nat) (w : World) {F : Nat → Prop} (hs : Sl tJn w F a l) (hl : l.length ≤ 1000) (hinc : IncJ l) (h : ofB l = true) :
    Calls Tryz.prog 26 #[.slice a l.length cap] w fun e w' => ∃ g a c, e = .returned (.pointer (some ⟨g, 0, none⟩)) ∧ w.heap.size ≤ g ∧ BookAt w' g a c l (fun k => w.heap.size ≤ k) ∧ Below w.heap.size w w' := by
  refine (lof_any l a cap w hs hl hinc).mono ?_
  rintro e w' ⟨h1, _, h3⟩
  obtain ⟨g, a', c', he, hg, hat⟩ := h1 h
  exact ⟨g, a', c', he, hg, hat, h3⟩
theorem lof_no (l : List Jn) (a : Option Addr) (cap : Nat) (w : World) {F : Nat → Prop} (hs : Sl tJn w F a l) (hl : l.length ≤ 1000) (hinc : IncJ l) (h : ofB l = false) :
    Calls Tryz.prog 26 #[.slice a l.length cap] w fun e w' => e = .returned (.pointer none) ∧ Below w.heap.size w w' := by
  refine (lof_any l a cap w hs hl hinc).mono ?_
  rintro e w' ⟨_, h2, h3⟩
  exact ⟨h2 h, h3⟩
end Go.Proofs.YtgggpaacagbmcaaGreat

/- Frames: of what was there only some blocks may have turned. -/
set_option linter.unusedVariables false
set_option linter.unusedSimpArgs false
namespace Go.Proofs.YtgggpaacagbmcaaGreat
open Go.RowKit Go.Maps

/-- of what was there only the blocks of F may have turned -/
structure But (F : Nat → Prop) (w w' : World) : Prop where
  os : w'.os = w.os
  tape : w'.tape = w.tape
  output : w'.output = w.output
  size : w.heap.size ≤ w'.heap.size
  block : ∀ k, k < w.heap.size → ¬ F k → w'.heap[k]? = w.heap[k]?
section
variable {F G : Nat → Prop} {w w1 w2 : World}
theorem But.refl (F : Nat → Prop) (w : World) : But F w w := ⟨rfl, rfl, rfl, Nat.le_refl _, fun _ _ _ => rfl⟩
theorem But.trans (h : But F w w1) (k : But F w1 w2) : But F w w2 :=
  ⟨k.os.trans h.os, k.tape.trans h.tape, k.output.trans h.output, Nat.le_trans h.size k.size, fun i hi hf => (k.block i (Nat.lt_of_lt_of_le hi h.size) hf).trans (h.block i hi hf)⟩
theorem But.mono (h : But F w w1) (hi : ∀ k, k < w.heap.size → F k → G k) : But G w w1 := ⟨h.os, h.tape, h.output, h.size, fun k hk hg => h.block k hk (fun hf => hg (hi k hk hf))⟩
theorem But.of_below (h : Below w.heap.size w w1) (F : Nat → Prop) : But F w w1 := ⟨h.os, h.tape, h.output, h.size, fun k hk _ => h.block k hk⟩
theorem But.below (h : But F w w1) (hf : ∀ k, k < w.heap.size → ¬ F k) : Below w.heap.size w w1 := ⟨h.os, h.tape, h.output, h.size, fun k hk => h.block k hk (hf k hk)⟩
theorem But.drewN (h : But F w w1) (n : Nat) : But F w (w1.drewN n) := ⟨h.os, h.tape, h.output, h.size, h.block⟩
theorem But.drew (h : But F w w1) : But F w w1.drew := ⟨h.os, h.tape, h.output, h.size, h.block⟩
theorem But.alloc (h : But F w w1) (o : Obj) : But F w (w1.alloc o) := h.trans (.of_below ((Below.refl _ _).alloc (Nat.le_refl _) o) F)
theorem But.call (h : But F w w1) (hb : Below w1.heap.size w1 w2) : But F w w2 := h.trans (.of_below hb F)
theorem But.only {b : Nat} (h : But F w w1) (ho : OnlyB w1 w2 b) (hf : F b ∨ w.heap.size ≤ b) : But F w w2 :=
  ⟨ho.grown.os.trans h.os, ho.grown.tape.trans h.tape, ho.grown.output.trans h.output, by have := ho.size; have := h.size; omega, fun k hk hfk => by
    have hne : some k ≠ some b := by
      intro e
      injection e with e
      subst e
      rcases hf with hf | hf
      · exact hfk hf
      · omega
    exact (ho.grown.block k (Nat.lt_of_lt_of_le hk h.size) hne).trans (h.block k hk hfk)⟩
theorem But.setCell (h : But F w w1) {p : Addr} (hp : F p.block ∨ w.heap.size ≤ p.block) (u : Value) : But F w (w1.setCell p u) :=
  ⟨h.os, h.tape, h.output, by have := h.size; simpa [World.setCell] using this, fun k hk hfk => by
    have hne : k ≠ p.block := by
      intro e
      subst e
      rcases hp with hf | hf
      · exact hfk hf
      · omega
    exact (Below.heap_setCell w1 p u k hne).trans (h.block k hk hfk)⟩
theorem OnlyB.heap {b k : Nat} (ho : OnlyB w w1 b) (hk : k ≠ b) : w1.heap[k]? = w.heap[k]? := by
  by_cases hlt : k < w.heap.size
  · exact ho.grown.block k hlt (fun e => hk (by injection e))
  · have hs := ho.size
    rw [Array.getElem?_eq_none (by omega), Array.getElem?_eq_none (by omega)]
end

theorem But.grown {F : Nat → Prop} {w w1 w2 : World} {r : Option Nat} (h : But F w w1) (hg : w1.grownBy w2 r) (hf : ∀ k, r = some k → F k ∨ w.heap.size ≤ k) : But F w w2 :=
  ⟨hg.os.trans h.os, hg.tape.trans h.tape, hg.output.trans h.output, Nat.le_trans h.size hg.size, fun k hk hfk => by
    have hne : some k ≠ r := by
      intro e
      rcases hf k e.symm with hf | hf
      · exact hfk hf
      · omega
    exact (hg.block k (Nat.lt_of_lt_of_le hk h.size) hne).trans (h.block k hk hfk)⟩
end Go.Proofs.YtgggpaacagbmcaaGreat

/- A map that holds a list (MapIs), ranged over: the keys come, each once, in some order. -/
set_option linter.unusedVariables false
set_option linter.unusedSimpArgs false
namespace Go.Proofs.YtgggpaacagbmcaaGreat
open Go.RowKit Go.Maps Go.ChangeMaps Go.MapKept Go.WideShapes

theorem nd_of_map {α β : Type} (f : α → β) {l : List α} (h : (l.map f).Nodup) : l.Nodup := by
  rw [List.Nodup, List.pairwise_map] at h
  exact List.Pairwise.imp (fun hne e => hne (congrArg f e)) h
section
variable {P : Program} {t : TypeId} {κ ν : Type} [DecidableEq κ] {M : MK P t κ} {ev : ν → Value}

variable (M ev) in
/-- 'for k := range m' under way: the map holds l; ss have come -/
def Rng (w : World) (b r : Nat) (l : List (κ × ν)) (ss : List κ) : Prop :=
  MapIs M ev w b l ∧ ∃ (es : Array MapEntry) (clock since : Nat) (seen : Array Nat) (c0 : Nat) (vs : List MapEntry), w.heap[b]? = some (.map es clock) ∧ es.toList.map (fun e => (e.key, e.val)) = l.map (fun x => (M.ek x.1, ev x.2)) ∧ (es.toList.map (·.born)).Nodup ∧
    w.heap[r]? = some (.mapIter (some b) since seen c0) ∧ (∀ x ∈ es.toList, x.born < since) ∧ since ≤ c0 ∧ since ≤ clock ∧
    seen.toList = vs.map (·.born) ∧ (∀ e ∈ vs, e ∈ es.toList) ∧ (vs.map (·.born)).Nodup ∧ ss.map M.ek = vs.map (·.key)

omit [DecidableEq κ] in
theorem MapIs.range {T e : TypeId} {w : World} {b : Nat} {l : List (κ × ν)} (h : MapIs M ev w b l) (ht : P.underlying T = some (.map t e)) :
    ∃ w', (Instr.range T (.map (some b))).run P w = .ok (.pointer (some ⟨w.heap.size, 0, none⟩)) w' ∧ Rng M ev w' b w.heap.size l [] ∧ w.grownBy w' none ∧ w'.heap.size = w.heap.size + 1 := by
  have hlt := h.lt
  obtain ⟨es, clock, hb, hm, hc, hn⟩ := h.ex
  have hbk := ((MapKept.heap_alloc w (.mapIter (some b) clock #[] clock)).2 b hlt)
  exact ⟨_, run_range_map w T t e b es clock ht hb, ⟨h.keep hbk, es, clock, clock, #[], clock, [], hbk.trans hb, hm, hn, (MapKept.heap_alloc w _).1, hc, Nat.le_refl _, Nat.le_refl _, rfl, by simp, by simp, rfl⟩, World.grownBy_alloc w _ none, by simp⟩

omit [DecidableEq κ] in
theorem Rng.ne {w : World} {b r : Nat} {l : List (κ × ν)} {ss : List κ} (h : Rng M ev w b r l ss) : r ≠ b := by
  obtain ⟨_, es, clock, since, seen, c0, vs, hb, _, _, hr, _⟩ := h
  intro e
  rw [e, hb] at hr
  cases hr

omit [DecidableEq κ] in
theorem Rng.iter_walk {w : World} {b r : Nat} {l : List (κ × ν)} {ss : List κ} (h : Rng M ev w b r l ss) : ∃ o : Obj, w.heap[r]? = some o ∧ o.isWalk = true := by
  obtain ⟨_, es, clock, since, seen, c0, vs, hb, _, _, hr, _⟩ := h
  exact ⟨_, hr, rfl⟩

omit [DecidableEq κ] in
theorem Rng.of_walks {w w' : World} {b r : Nat} {l : List (κ × ν)} {ss : List κ} (h : Rng M ev w b r l ss) (hk : KeepsWalks w w') : Rng M ev w' b r l ss := by
  obtain ⟨hm, es, clock, since, seen, c0, vs, hb, h1, h2, hr, rest⟩ := h
  have hb' := hk.same b _ hb rfl
  exact ⟨hm.keep (hb'.trans hb.symm), es, clock, since, seen, c0, vs, hb', h1, h2, hk.same r _ hr rfl, rest⟩

omit [DecidableEq κ] in
theorem rangeLeft_walks {w w' : World} {b r : Nat} {l : List (κ × ν)} {ss : List κ} (hk : KeepsWalks w w') (h : Rng M ev w b r l ss) : w'.rangeLeft b r = w.rangeLeft b r := by
  obtain ⟨hm, es, clock, since, seen, c0, vs, hb, h1, h2, hr, rest⟩ := h
  simp only [World.rangeLeft, hk.same b _ hb rfl, hk.same r _ hr rfl, hb, hr]
omit [DecidableEq κ] in
theorem Rng.len {w : World} {b r : Nat} {l : List (κ × ν)} {ss : List κ} (h : Rng M ev w b r l ss) : ss.length + w.rangeLeft b r ≤ l.length := by
  obtain ⟨_, es, clock, since, seen, c0, vs, hb, hm, hn, hr, _, _, _, hs, hv, hvn, hss⟩ := h
  simp only [World.rangeLeft, hb, hr]
  have e1 : ss.length = vs.length := by simpa using congrArg List.length hss
  have e2 : l.length = es.toList.length := by simpa using (congrArg List.length hm).symm
  rw [e1, e2]
  have hvs : vs.Nodup := nd_of_map _ hvn
  have hen : es.toList.Nodup := nd_of_map _ hn
  have e3 : (leftOf es seen).size = (es.toList.filter fun e => !seen.contains e.born).length := by
    unfold leftOf
    rw [← Array.toList_filter, Array.length_toList]
  rw [e3]
  have hnd : (vs ++ es.toList.filter fun e => !seen.contains e.born).Nodup := by
    refine List.nodup_append.2 ⟨hvs, hen.sublist List.filter_sublist, fun a ha c hc e => ?_⟩
    subst e
    have h3 := (List.mem_filter.1 hc).2
    have h4 : a.born ∈ seen.toList := by rw [hs]; exact List.mem_map.2 ⟨a, ha, rfl⟩
    simp at h3
    exact h3 (by simpa using h4)
  have := hnd.length_le_of_subset (l₂ := es.toList) (fun x hx => by
    rcases List.mem_append.1 hx with h | h
    · exact hv x h
    · exact (List.mem_filter.1 h).1)
  simpa using this

omit [DecidableEq κ] in
theorem perm_of_map (M : MK P t κ) {ss ks : List κ} (hk : ks.Nodup) (h : (ss.map M.ek).Perm (ks.map M.ek)) : ss.Perm ks := by
  have hkn : (ks.map M.ek).Nodup := by
    rw [List.Nodup, List.pairwise_map]
    exact List.Pairwise.imp (fun hne e => hne (M.inj _ _ e)) hk
  have hsn : ss.Nodup := nd_of_map _ ((h.nodup_iff).2 hkn)
  refine (List.perm_ext_iff_of_nodup hsn hk).2 fun x => ?_
  have m : ∀ (q : List κ), x ∈ q ↔ M.ek x ∈ q.map M.ek := fun q => ⟨fun hx => List.mem_map.2 ⟨x, hx, rfl⟩, fun hx => by
    obtain ⟨y, hy, e⟩ := List.mem_map.1 hx
    rwa [← M.inj _ _ e]⟩
  rw [m, m, h.mem_iff]

omit [DecidableEq κ] in
theorem Rng.next {w : World} {b r : Nat} {l : List (κ × ν)} {ss : List κ} (h : Rng M ev w b r l ss) (ty : TypeId) :
    (ss.Perm (l.map (·.1)) ∧ (Instr.next (.pointer (some ⟨r, 0, none⟩)) false ty).run P w = .ok (.tuple #[.bool false]) w) ∨
    ∃ k v w', (k, v) ∈ l ∧ (Instr.next (.pointer (some ⟨r, 0, none⟩)) false ty).run P w = .ok (.tuple #[.bool true, M.ek k, ev v]) w' ∧
      Rng M ev w' b r l (ss ++ [k]) ∧ w'.rangeLeft b r < w.rangeLeft b r ∧ w.grownBy w' (some r) ∧ w'.heap.size = w.heap.size ∧ (Instr.entry (.pointer (some ⟨r, 0, none⟩))).run P w' = .ok (.tuple #[M.ek k, ev v]) w' := by
  have hne := h.ne
  obtain ⟨hM, es, clock, since, seen, c0, vs, hb, hm, hn, hr, hold, hsc, hsk, hs, hv, hvn, hss⟩ := h
  rcases run_next_at (P := P) w ty r b since c0 seen es clock hr hb hold hsc with ⟨h0, hrun⟩ | ⟨e, he, w1, hal, hrun⟩
  · refine Or.inl ⟨perm_of_map M hM.once ?_, hrun⟩
    have hall := all_seen es seen h0
    have hp : vs.Perm es.toList := by
      refine (List.perm_ext_iff_of_nodup (nd_of_map _ hvn) (nd_of_map _ hn)).2 fun x => ⟨hv x, fun hx => ?_⟩
      have h1 := hall x hx
      have h2 : x.born ∈ seen.toList := by simpa using h1
      rw [hs] at h2
      obtain ⟨y, hy, hyb⟩ := List.mem_map.1 h2
      rwa [← born_inj hn (hv y hy) hx hyb]
    rw [hss]
    have h3 := congrArg (List.map (·.1)) hm
    simp only [List.map_map] at h3
    have h4 : es.toList.map (·.key) = (l.map (·.1)).map M.ek := by simpa [Function.comp_def] using h3
    rw [← h4]
    exact hp.map _
  · obtain ⟨hem, hes⟩ := mem_left he
    have hx : (e.key, e.val) ∈ l.map (fun x => (M.ek x.1, ev x.2)) := by rw [← hm]; exact List.mem_map.2 ⟨e, hem, rfl⟩
    obtain ⟨⟨k, v⟩, hkv, hx2⟩ := List.mem_map.1 hx
    obtain ⟨hk2, hv2⟩ := Prod.mk.inj hx2
    simp only at hk2 hv2
    have hr1 : w1.heap[r]? = some (.mapIter (some b) since seen c0) := by rcases hal with rfl | rfl <;> exact hr
    have hb1 : w1.heap[b]? = some (.map es clock) := by rcases hal with rfl | rfl <;> exact hb
    have hset := heap_set (o' := .mapIter (some b) since (seen.push e.born) clock) hr1
    have hb' : (setBlock w1 r (.mapIter (some b) since (seen.push e.born) clock)).heap[b]? = some (.map es clock) := (hset.2 b (fun e1 => hne e1.symm)).trans hb1
    refine Or.inr ⟨k, v, _, hkv, by rw [hrun, ← hk2, ← hv2], ⟨hM.keep (hb'.trans hb.symm), es, clock, since, seen.push e.born, clock, vs ++ [e], hb', hm, hn, hset.1, hold, hsk, hsk, ?_, ?_, ?_, ?_⟩, ?_, ?_, ?_,
      by rw [hk2, hv2]; exact run_entry_at _ r b since seen es clock e hset.1 hb' hem hn⟩
    · simp [hs]
    · intro x hx
      rcases List.mem_append.1 hx with h | h
      · exact hv x h
      · simp at h; rw [h]; exact hem
    · rw [List.map_append]
      refine List.nodup_append.2 ⟨hvn, by simp, fun a ha c hc e1 => ?_⟩
      simp at hc
      rw [hc] at e1
      rw [e1, ← hs] at ha
      have : seen.contains e.born = true := by simpa using ha
      rw [hes] at this
      cases this
    · rw [List.map_append, List.map_append, hss]
      simp [hk2]
    · have hsr : (setBlock w1 r (.mapIter (some b) since (seen.push e.born) clock)).heap[r]? = some (.mapIter (some b) since (seen.push e.born) clock) := hset.1
      simp only [World.rangeLeft, hsr, hb', hb, hr]
      exact left_shrinks es seen e he
    · rcases hal with rfl | rfl <;> exact ⟨rfl, rfl, rfl, by simp [setBlock], fun i _ hi => hset.2 i (fun e1 => hi (by rw [e1]))⟩
    · rcases hal with rfl | rfl <;> simp [setBlock]
end
section
variable {F : Fence} {n : Nat} {P : Program} {t : TypeId} {κ ν : Type} {M : MK P t κ} {ev : ν → Value} {ops : Array Oper} {rest : List Oper} {o : Oper} {a : Act} {Q : Exit → Act → World → Prop} {w : World}
theorem wpIn_range (hg : o.guard = none) (m : Operand) (T : TypeId) (hop : o.op = Op.range T m) (e : TypeId) (ht : P.underlying T = some (.map t e)) (b : Nat) (l : List (κ × ν)) (hm : a.eval m = .map (some b)) (h : MapIs M ev w b l)
    (hK : ∀ w', Rng M ev w' b w.heap.size l [] → w.grownBy w' none → w'.heap.size = w.heap.size + 1 → wpListIn F n P ops Q rest (a.put o.dst (.pointer (some ⟨w.heap.size, 0, none⟩))) w') :
    wpListIn F n P ops Q (o :: rest) a w := by
  refine wpListIn_plain hg fun K' hK' => ?_
  obtain ⟨w', hrun, r1, r2, r3⟩ := h.range ht
  unfold Oper.wpIn
  refine ⟨?_, ?_⟩
  · simp [Oper.about, hop]
  · rw [Oper.semAt_plain F _ _ (by rw [hop]; intro c hc'; cases hc')]
    simp [execOp, hop, hm, hrun, Result.andThen]
    exact hK' _ _ (hK w' r1 r2 r3)
theorem wpIn_next (hg : o.guard = none) (it : Operand) (hop : o.op = Op.next it false) (b r : Nat) (l : List (κ × ν)) (ss : List κ) (hit : a.eval it = .pointer (some ⟨r, 0, none⟩)) (h : Rng M ev w b r l ss)
    (hDone : ss.Perm (l.map (·.1)) → wpListIn F n P ops Q rest (a.put o.dst (.tuple #[.bool false])) w)
    (hMore : ∀ k v w', (k, v) ∈ l → Rng M ev w' b r l (ss ++ [k]) → w'.rangeLeft b r < w.rangeLeft b r → w.grownBy w' (some r) → w'.heap.size = w.heap.size →
      (Instr.entry (.pointer (some ⟨r, 0, none⟩))).run P w' = .ok (.tuple #[M.ek k, ev v]) w' → wpListIn F n P ops Q rest (a.put o.dst (.tuple #[.bool true, M.ek k, ev v])) w') :
    wpListIn F n P ops Q (o :: rest) a w := by
  refine wpListIn_plain hg fun K' hK' => ?_
  unfold Oper.wpIn
  refine ⟨by simp [Oper.about, hop], ?_⟩
  rw [Oper.semAt_plain F _ _ (by rw [hop]; intro c hc'; cases hc')]
  rcases h.next o.type with ⟨h0, hrun⟩ | ⟨k, v, w', hkv, hrun, hrg, hlt, hgr, hsz, hen⟩
  · simp [execOp, hop, hit, hrun, Result.andThen]
    exact hK' _ _ (hDone h0)
  · simp [execOp, hop, hit, hrun, Result.andThen]
    exact hK' _ _ (hMore k v w' hkv hrg hlt hgr hsz hen)
end
end Go.Proofs.YtgggpaacagbmcaaGreat
