/- book: ahead, holds. -/
import Derived.Test.YtgggpaacagbmcaaGreatX06GroupInner
import Derived.Deep.RegionWith
import Derived.Deep.LoopGhost
set_option linter.unusedVariables false
set_option linter.unusedSimpArgs false
namespace Go.Proofs.YtgggpaacagbmcaaGreat
open Go.RowKit Go.Maps

set_option maxHeartbeats 1000000 in
theorem ahead_any (j : Jn) (a : Option Addr) (cap : Nat) (id : Int) (w : World) (h1 : 0 ≤ j.id) (h2 : j.id ≤ 1000000) (h3 : 0 ≤ id) (h4 : id ≤ 1000000) :
    Calls Tryz.prog 179 #[jnv j a cap, .int .i64 id] w fun e w' => e = .returned (.int .i64 (j.id - id)) ∧ Below w.heap.size w w' := by
  obtain ⟨jid, en, pe, ref, lines, void⟩ := j
  simp only at h1 h2
  go_enter Tryz.func179, Tryz.ntmps179
  go_wp2_with fail
  go_ret
  refine ⟨?_, (Below.refl _ _).alloc (Nat.le_refl _) _⟩
  first
  | rfl
  | go_num

theorem holds_cases {h x : Jn} {b : Bool} (hc : clash h x = b) : (b = false ∧ (x.void = true ∨ x.void = false ∧ ((x.id != h.id) = false ∨ (x.id != h.id) = true ∧ ((x.en == h.en) = false ∨ (x.en == h.en) = true ∧ (x.ref.toList == h.ref.toList) = false)))) ∨
    (b = true ∧ x.void = false ∧ (x.id != h.id) = true ∧ (x.en == h.en) = true ∧ (x.ref.toList == h.ref.toList) = true) := by
  subst hc
  unfold clash
  cases x.id != h.id <;> cases x.void <;> cases x.ref.toList == h.ref.toList <;> cases x.en == h.en <;> simp

set_option maxHeartbeats 2000000 in
theorem holds_any (h x : Jn) (ha xa : Option Addr) (hc xc : Nat) (w : World) :
    Calls Tryz.prog 181 #[jnv h ha hc, jnv x xa xc] w fun e w' => e = .returned (.bool (clash h x)) ∧ Below w.heap.size w w' := by
  generalize hb : clash h x = b
  have hcs := holds_cases hb
  clear hb
  obtain ⟨i1, i2, i3, i4, i5, i6⟩ := h
  obtain ⟨x1, x2, x3, x4, x5, x6⟩ := x
  simp only at hcs
  rcases hcs with ⟨rfl, rfl | ⟨rfl, h2 | ⟨h2, h3 | ⟨h3, h4⟩⟩⟩⟩ | ⟨rfl, rfl, h2, h3, h4⟩
  all_goals
    go_enter Tryz.func181, Tryz.ntmps181
    go_wp2_with fail
    go_ret
    exact ⟨rfl, ((Below.refl _ _).alloc (Nat.le_refl _) _).alloc (by simp) _⟩
end Go.Proofs.YtgggpaacagbmcaaGreat


/- slices.IndexFunc, ContainsFunc at a holder's question. -/
set_option linter.unusedVariables false
set_option linter.unusedSimpArgs false
namespace Go.Proofs.YtgggpaacagbmcaaGreat
open Go.RowKit Go.Maps

theorem holds_is (h x : Jn) (ha xa : Option Addr) (hc xc : Nat) (w : World) {b : Bool} (hb : clash h x = b) :
    Calls Tryz.prog 181 #[jnv h ha hc, jnv x xa xc] w fun e w' => e = .returned (.bool b) ∧ Below w.heap.size w w' := by
  have := holds_any h x ha xa hc xc w
  rwa [hb] at this

def IdxPost (w : World) (b : Bool) (e : Ending) (w' : World) : Prop := (∃ k : Int, e = .returned (.int .i64 k) ∧ decide (0 ≤ k) = b) ∧ Below w.heap.size w w'
set_option maxHeartbeats 2000000 in
set_option maxRecDepth 100000 in
theorem indexJ_any (l : List Jn) (a : Option Addr) (cap : Nat) (h : Jn) (ha : Option Addr) (hc : Nat) (w : World) {F : Nat → Prop} (hs : Sl tJn w F a l) (hl : l.length ≤ maxLen) :
    Calls Tryz.prog 194 #[.slice a l.length cap, .func (.func 181) #[jnv h ha hc] #[]] w (IdxPost w (l.any (clash h))) := by
  have HS := Lib.hid hs
  have hl' : l.length ≤ 9223372036854775807 := by unfold maxLen at hl; omega
  clear hs hl
  generalize hres : l.any (clash h) = res
  have HR := Lib.hid hres
  clear hres
  go_enter Tryz.func194, Tryz.ntmps194
  go_wp2_with fail
  go_loopw [8] (fun vi wr => ∃ n : Nat, n ≤ l.length ∧ vi = .int .i64 n ∧ Hid ((l.take n).any (clash h) = false) ∧ Below w.heap.size w wr) (fun vi _ => l.length - (Go.RowKit.intOf vi).toNat)
  case atStart => exact ⟨0, Nat.zero_le _, rfl, rfl, Below.refl _ _⟩
  case round =>
    obtain ⟨n, hn, rfl, hany, hb⟩ := hrel
    have HB1 := Lib.hid hb
    clear hb
    by_cases hlt : n < l.length
    · obtain ⟨ad, la, lc, rfl, _, hadl, hc0, hc1, hc2, hc3, hc4, hc5, hr⟩ := jn_at (Sl.keep (fun k hk _ => HB1.out.block k hk) HS.out) n hlt
      clear hr
      go_wp2_with fail
      cases hv : clash h l[n]
      · refine (holds_is h l[n] ha la hc lc _ hv).mono ?_
        rintro e w2 ⟨rfl, hb⟩
        have HB2 := Lib.hid (belows_then HB1.out HB1.out.size hb)
        have HN := Lib.hid ((any_take_succ (clash h) l n hlt).trans (by rw [hany.out, hv]; try rfl))
        clear hb hc0 hc1 hc2 hc3 hc4 hc5 hadl hv
        go_wp2_with fail
        go_roundw
        case rel => exact ⟨n + 1, by omega, by go_num, HN.out, HB2.out⟩
        case measure => simp [Go.RowKit.intOf]; omega
      · refine (holds_is h l[n] ha la hc lc _ hv).mono ?_
        rintro e w2 ⟨rfl, hb⟩
        have HB2 := Lib.hid (belows_then HB1.out HB1.out.size hb)
        have hr : res = true := by rw [← HR.out]; exact any_at _ l n hlt hv
        have HRR := Lib.hid hr
        clear hb hc0 hc1 hc2 hc3 hc4 hc5 hadl hv hr
        go_wp2_with fail
        go_ret
        rw [HRR.out]
        exact ⟨⟨_, rfl, by simp⟩, HB2.out⟩
    · have hr : res = false := by
        rw [← HR.out]
        have := hany.out
        rwa [take_all hn hlt] at this
      have HRR := Lib.hid hr
      clear hr
      go_wp2_with fail
      go_ret
      rw [HRR.out]
      exact ⟨⟨_, rfl, by decide⟩, HB1.out⟩

set_option maxHeartbeats 2000000 in
theorem containsJ_any (l : List Jn) (a : Option Addr) (cap : Nat) (h : Jn) (ha : Option Addr) (hc : Nat) (w : World) {F : Nat → Prop} (hs : Sl tJn w F a l) (hl : l.length ≤ maxLen) :
    Calls Tryz.prog 180 #[.slice a l.length cap, .func (.func 181) #[jnv h ha hc] #[]] w fun e w' => e = .returned (.bool (l.any (clash h))) ∧ Below w.heap.size w w' := by
  have H := indexJ_any l a cap h ha hc w hs hl
  generalize l.any (clash h) = res at H ⊢
  have HH := Lib.hid H
  clear H hs hl
  go_enter Tryz.func180, Tryz.ntmps180
  go_wp2_with fail
  refine HH.out.mono ?_
  rintro e w' ⟨⟨k, rfl, hk⟩, hb⟩
  have HK := Lib.hid hk
  clear hk
  go_wp2_with fail
  go_ret
  rw [← HK.out]
  exact ⟨rfl, hb⟩
end Go.Proofs.YtgggpaacagbmcaaGreat


/- book: taken. -/
set_option linter.unusedVariables false
set_option linter.unusedSimpArgs false
namespace Go.Proofs.YtgggpaacagbmcaaGreat
open Go.RowKit Go.Maps

/-- a book behind a pointer: its field holds the list -/
structure BookAt (w : World) (b : Nat) (a : Option Addr) (cap : Nat) (l : List Jn) (F : Nat → Prop) : Prop where
  cell : w.heap[b]? = some (.cells #[.slice a l.length cap] 188 (0, 0))
  sl : Sl tJn w F a l
  len : l.length ≤ cap
  cap : cap ≤ maxLen
theorem BookAt.below {w w' : World} {b : Nat} {a : Option Addr} {cap : Nat} {l : List Jn} {F : Nat → Prop} (h : BookAt w b a cap l F) (hb : Below w.heap.size w w') : BookAt w' b a cap l F :=
  ⟨blk_below h.cell hb, Sl.keep (fun k hk _ => hb.block k hk) h.sl, h.len, h.cap⟩
theorem containsJ_is (l : List Jn) (a : Option Addr) (cap : Nat) (h : Jn) (ha : Option Addr) (hc : Nat) (w : World) {F : Nat → Prop} (hs : Sl tJn w F a l) (hl : l.length ≤ maxLen) {b : Bool} (hb : l.any (clash h) = b) :
    Calls Tryz.prog 180 #[.slice a l.length cap, .func (.func 181) #[jnv h ha hc] #[]] w fun e w' => e = .returned (.bool b) ∧ Below w.heap.size w w' := by
  have := containsJ_any l a cap h ha hc w hs hl
  rwa [hb] at this

set_option maxHeartbeats 4000000 in
set_option maxRecDepth 100000 in
theorem taken_any {w : World} {b : Nat} {a : Option Addr} {cap : Nat} {l : List Jn} {F : Nat → Prop} (h : BookAt w b a cap l F) (j : Jn) (ja : Option Addr) (jc : Nat) :
    Calls Tryz.prog 157 #[.pointer (some ⟨b, 0, none⟩), jnv j ja jc] w fun e w' => e = .returned (.bool (takenJ l j)) ∧ Below w.heap.size w w' := by
  have H := Lib.hid h
  have hbl := blk_lt h.cell
  clear h
  generalize hres : takenJ l j = res
  have HR := Lib.hid hres
  clear hres
  obtain ⟨id, en, pe, ref, lines, void⟩ := j
  have hact : (void = true ∨ void = false ∧ (ref.toList.isEmpty = true ∨ ref.toList.isEmpty = false)) := by
    cases ref.toList.isEmpty <;> cases void <;> simp
  have hcj := blk_cells (blk_new w (.cells #[.int .i64 id, .int .i64 en, .int .i64 pe, .string ref, .slice ja lines.length jc, .bool void] 81))
  have hcb := blk_cells (blk_alloc H.out.cell (.cells #[.int .i64 id, .int .i64 en, .int .i64 pe, .string ref, .slice ja lines.length jc, .bool void] 81))
  have HB := Lib.hid ((Below.refl w.heap.size w).alloc (Nat.le_refl _) (.cells #[.int .i64 id, .int .i64 en, .int .i64 pe, .string ref, .slice ja lines.length jc, .bool void] 81))
  rcases hact with rfl | ⟨rfl, h2 | h2⟩
  · have hr : res = false := by rw [← HR.out]; simp [takenJ]
    have HRR := Lib.hid hr
    clear hr
    go_enter Tryz.func157, Tryz.ntmps157
    go_wp2_with fail
    go_quiet (fail)
    go_wp2_with fail
    go_ret
    rw [HRR.out]
    exact ⟨rfl, below_drewN HB.out _⟩
  · have hr : res = false := by rw [← HR.out]; simp [takenJ, h2]
    have HRR := Lib.hid hr
    clear hr
    go_enter Tryz.func157, Tryz.ntmps157
    go_wp2_with fail
    go_quiet (fail)
    go_wp2_with fail
    go_ret
    rw [HRR.out]
    exact ⟨rfl, below_drewN HB.out _⟩
  · have hr : l.any (clash ⟨id, en, pe, ref, lines, false⟩) = res := by rw [← HR.out]; simp only [takenJ, h2, Bool.not_false, Bool.true_and]
    have HRR := Lib.hid hr
    have HSL := Lib.hid ((H.out.below HB.out).sl)
    have HSD : Hid (Sl tJn (w.alloc (.cells #[.int .i64 id, .int .i64 en, .int .i64 pe, .string ref, .slice ja lines.length jc, .bool false] 81)).drew F a l) := Sl.keep (fun k hk _ => rfl) HSL.out
    have HL : Hid (l.length ≤ maxLen) := Nat.le_trans H.out.len H.out.cap
    clear hr
    go_enter Tryz.func157, Tryz.ntmps157
    go_wp2_with fail
    go_region_with (go_at_call 180; refine (containsJ_is l a cap ⟨id, en, pe, ref, lines, false⟩ ja jc (w.alloc (.cells #[.int .i64 id, .int .i64 en, .int .i64 pe, .string ref, .slice ja lines.length jc, .bool false] 81)).drew HSD.out HL.out HRR.out).mono ?_; rintro e w' ⟨rfl, hb⟩)
    all_goals
      have HB2 := Lib.hid (belows_then (Below.drew HB.out) HB.out.size hb)
      clear hb
      go_wp2_with fail
      go_ret
      exact ⟨rfl, HB2.out⟩
end Go.Proofs.YtgggpaacagbmcaaGreat


/- book: where a number stands: slices.BinarySearchFunc at ahead, find. -/
set_option linter.unusedVariables false
set_option linter.unusedSimpArgs false
namespace Go.Proofs.YtgggpaacagbmcaaGreat
open Go.RowKit Go.Maps

def ahd (x id : Int) : Int := wrap64 (x - id)
theorem ahd_zero {x id : Int} (h1 : I64 x) (h2 : I64 id) : (ahd x id == 0) = (x == id) := by
  have := i64_bd h1
  have := i64_bd h2
  unfold ahd wrap64
  rw [Bool.eq_iff_iff]
  simp only [beq_iff_eq]
  omega
theorem ahd_small {x id : Int} (h1 : 1 ≤ x ∧ x ≤ 999999) (h2 : 1 ≤ id ∧ id ≤ 999999) : ahd x id = x - id := by
  unfold ahd wrap64
  omega

set_option maxHeartbeats 1000000 in
theorem ahead_all (j : Jn) (a : Option Addr) (cap : Nat) (id : Int) (w : World) {r : Int} (hr : ahd j.id id = r) :
    Calls Tryz.prog 179 #[jnv j a cap, .int .i64 id] w fun e w' => e = .returned (.int .i64 r) ∧ Below w.heap.size w w' := by
  obtain ⟨jid, en, pe, ref, lines, void⟩ := j
  simp only at hr
  unfold ahd at hr
  have HR := Lib.hid hr
  clear hr
  go_enter Tryz.func179, Tryz.ntmps179
  go_wp2_with fail
  go_ret
  exact ⟨by rw [← HR.out]; rfl, (Below.refl _ _).alloc (Nat.le_refl _) _⟩

/-- journals in the order of their numbers, which may be -/
structure OrdJ (l : List Jn) : Prop where
  ord : ∀ i k (hi : i < l.length) (hk : k < l.length), i < k → l[i].id < l[k].id
  ok : ∀ x ∈ l, 1 ≤ x.id ∧ x.id ≤ 999999
def lowB (l : List Jn) (id : Int) : Nat := l.countP (fun x => decide (x.id < id))
def inId (id : Int) : Bool := decide (1 ≤ id) && decide (id ≤ 999999)
theorem inId_bd {id : Int} (h : inId id = true) : 1 ≤ id ∧ id ≤ 999999 := by simpa [inId] using h

theorem lowB_is (l : List Jn) (id : Int) : ∀ (k : Nat), k ≤ l.length → (∀ t (h : t < l.length), t < k → l[t].id < id) → (∀ t (h : t < l.length), k ≤ t → id ≤ l[t].id) → lowB l id = k := by
  unfold lowB
  induction l with
  | nil => intro k hk _ _; simp at hk; simp [hk]
  | cons a r ih =>
    intro k hk h1 h2
    cases k with
    | zero =>
      rw [List.countP_eq_zero]
      intro x hx
      obtain ⟨t, ht, rfl⟩ := List.getElem_of_mem hx
      have := h2 t ht (Nat.zero_le _)
      simp; omega
    | succ k =>
      have ha := h1 0 (by simp) (by omega)
      rw [List.countP_cons_of_pos (by simpa using ha), ih k (by simpa using hk) (fun t h ht => h1 (t + 1) (Nat.succ_lt_succ h) (by omega)) (fun t h ht => h2 (t + 1) (Nat.succ_lt_succ h) (by omega))]

theorem hasJ_in {l : List Jn} (hO : OrdJ l) {id : Int} (h : hasJ l id = true) : inId id = true := by
  unfold hasJ at h
  rw [List.any_eq_true] at h
  obtain ⟨x, hx, he⟩ := h
  have := hO.ok x hx
  simp at he
  subst he
  simp [inId, this]

/-- where the search ends -/
structure Ends (l : List Jn) (id : Int) (k : Nat) : Prop where
  le : k ≤ l.length
  low : inId id = true → k = lowB l id
  here : hasJ l id = true → ∃ h : k < l.length, l[k].id = id
  at_ : ∀ h : k < l.length, (l[k].id == id) = hasJ l id
  past : ¬ k < l.length → hasJ l id = false

theorem ends_of {l : List Jn} (hO : OrdJ l) {id : Int} {k : Nat} (hk : k ≤ l.length) (H : inId id = true → (∀ t (h : t < l.length), t < k → l[t].id < id) ∧ (∀ t (h : t < l.length), k ≤ t → id ≤ l[t].id)) : Ends l id k := by
  have hhere : hasJ l id = true → ∃ h : k < l.length, l[k].id = id := by
    intro h
    obtain ⟨h1, h2⟩ := H (hasJ_in hO h)
    unfold hasJ at h
    rw [List.any_eq_true] at h
    obtain ⟨x, hx, he⟩ := h
    simp at he
    obtain ⟨t, ht, rfl⟩ := List.getElem_of_mem hx
    have htk : k ≤ t := by
      rcases Nat.lt_or_ge t k with h | h
      · have := h1 t ht h; omega
      · exact h
    rcases Nat.lt_or_eq_of_le htk with h | h
    · have a := h2 k (by omega) (Nat.le_refl _)
      have b := hO.ord k t (by omega) ht h
      omega
    · subst h
      exact ⟨ht, he⟩
  refine ⟨hk, fun h => ((lowB_is l id k hk (H h).1 (H h).2).symm), hhere, fun h => ?_, fun h => ?_⟩
  · cases hh : hasJ l id with
    | true =>
      obtain ⟨_, h2⟩ := hhere hh
      simpa using h2
    | false =>
      have : ∀ x ∈ l, (x.id == id) = false := by
        unfold hasJ at hh
        rw [List.any_eq_false] at hh
        intro x hx
        simpa using hh x hx
      exact this _ (List.getElem_mem h)
  · cases hh : hasJ l id with
    | true => obtain ⟨h2, _⟩ := hhere hh; exact absurd h2 h
    | false => rfl

def FindPost (w : World) (l : List Jn) (id : Int) (e : Ending) (w' : World) : Prop := ∃ k : Nat, e = .returned (.tuple #[.int .i64 k, .bool (hasJ l id)]) ∧ Ends l id k ∧ Below w.heap.size w w'

set_option maxHeartbeats 4000000 in
set_option maxRecDepth 100000 in
theorem bsearch_any (l : List Jn) (a : Option Addr) (cap : Nat) (id : Int) (w : World) {F : Nat → Prop} (hs : Sl tJn w F a l) (hl : l.length ≤ 100000) (hO : OrdJ l) (hid : I64 id) :
    Calls Tryz.prog 178 #[.slice a l.length cap, .int .i64 id, .func (.func 179) #[] #[]] w (FindPost w l id) := by
  have HS := Lib.hid hs
  have HO := Lib.hid hO
  have HI := Lib.hid hid
  have hcap : ∀ h : inId id = true, True := fun _ => trivial
  clear hs hO hid hcap
  go_enter Tryz.func178, Tryz.ntmps178
  go_wp2_with fail
  go_loopg [9, 10] l.length (fun kx s9 s10 wr => ∃ lo hi : Nat, s9 = .int .i64 lo ∧ s10 = .int .i64 hi ∧ lo ≤ hi ∧ hi ≤ l.length ∧ hi - lo ≤ kx ∧ Below w.heap.size w wr ∧
    Hid (inId id = true → (∀ t (h : t < l.length), t < lo → l[t].id < id) ∧ (∀ t (h : t < l.length), hi ≤ t → id ≤ l[t].id)))
  case atStart => exact ⟨0, l.length, rfl, rfl, Nat.zero_le _, Nat.le_refl _, by omega, Below.refl _ _, Lib.hid (fun _ => ⟨fun t h ht => absurd ht (Nat.not_lt_zero _), fun t h ht => by omega⟩)⟩
  case round =>
    obtain ⟨lo, hi, rfl, rfl, hlh, hin, hg, hb, I⟩ := hrel
    have HB1 := Lib.hid hb
    clear hb
    by_cases hlt : lo < hi
    · have hm : (lo + hi) / 2 < l.length := by omega
      obtain ⟨ad, la, lc, rfl, _, hadl, hc0, hc1, hc2, hc3, hc4, hc5, hr⟩ := jn_at (Sl.keep (fun k hk _ => HB1.out.block k hk) HS.out) ((lo + hi) / 2) hm
      have HJ := Lib.hid (jcs_inv hr).1
      have HOK := Lib.hid (HO.out.ok l[(lo + hi) / 2] (List.getElem_mem hm))
      generalize hx : l[(lo + hi) / 2] = x at *
      have HX := Lib.hid hx
      clear hx hr
      generalize hv : ahd x.id id = v
      have HV := Lib.hid hv
      clear hv
      by_cases hneg : v < 0
      · go_wp2_with fail
        refine (ahead_all x la lc id _ HV.out).mono ?_
        rintro e w2 ⟨rfl, hb⟩
        have HB2 := Lib.hid (belows_then HB1.out HB1.out.size hb)
        clear hb hc0 hc1 hc2 hc3 hc4 hc5 hadl
        go_wp2_with fail
        have HI2 : Hid (inId id = true → (∀ t (h : t < l.length), t < (lo + hi) / 2 + 1 → l[t].id < id) ∧ (∀ t (h : t < l.length), hi ≤ t → id ≤ l[t].id)) := Lib.hid (fun h => ⟨fun t h1 h2 => by
          have hxid : x.id < id := by
            have := HV.out
            rw [ahd_small HOK.out (inId_bd h)] at this
            omega
          rcases Nat.lt_or_eq_of_le (Nat.le_of_lt_succ h2) with h3 | h3
          · have := HO.out.ord t ((lo + hi) / 2) h1 hm h3
            rw [HX.out] at this
            omega
          · subst h3
            rw [HX.out]
            exact hxid, (I.out h).2⟩)
        go_roundg (hi - ((lo + hi) / 2 + 1))
        case measure => omega
        case rel => exact ⟨(lo + hi) / 2 + 1, hi, by rw [show ((lo : Int) + (hi : Int)) / 2 + 1 = (((lo + hi) / 2 + 1 : Nat) : Int) by omega], rfl, by omega, hin, Nat.le_refl _, HB2.out, HI2⟩
      · go_wp2_with fail
        refine (ahead_all x la lc id _ HV.out).mono ?_
        rintro e w2 ⟨rfl, hb⟩
        have HB2 := Lib.hid (belows_then HB1.out HB1.out.size hb)
        clear hb hc0 hc1 hc2 hc3 hc4 hc5 hadl
        go_wp2_with fail
        have HI2 : Hid (inId id = true → (∀ t (h : t < l.length), t < lo → l[t].id < id) ∧ (∀ t (h : t < l.length), (lo + hi) / 2 ≤ t → id ≤ l[t].id)) := Lib.hid (fun h => ⟨(I.out h).1, fun t h1 h2 => by
          have hxid : id ≤ x.id := by
            have := HV.out
            rw [ahd_small HOK.out (inId_bd h)] at this
            omega
          rcases Nat.lt_or_eq_of_le h2 with h3 | h3
          · have := HO.out.ord ((lo + hi) / 2) t hm h1 h3
            rw [HX.out] at this
            omega
          · subst h3
            rw [HX.out]
            exact hxid⟩)
        go_roundg ((lo + hi) / 2 - lo)
        case measure => omega
        case rel => exact ⟨lo, (lo + hi) / 2, rfl, by rw [show ((lo : Int) + (hi : Int)) / 2 = (((lo + hi) / 2 : Nat) : Int) by omega], by omega, by omega, Nat.le_refl _, HB2.out, HI2⟩
    · obtain rfl : hi = lo := by omega
      have HE := Lib.hid (ends_of HO.out hin I.out)
      generalize hhas : hasJ l id = has at *
      by_cases hn : hi < l.length
      · obtain ⟨ad, la, lc, rfl, _, hadl, hc0, hc1, hc2, hc3, hc4, hc5, hr⟩ := jn_at (Sl.keep (fun k hk _ => HB1.out.block k hk) HS.out) hi hn
        have HJ := Lib.hid (jcs_inv hr).1
        have HZ : Hid ((ahd l[hi].id id == 0) = has) := Lib.hid (by rw [ahd_zero HJ.out HI.out, HE.out.at_ hn, hhas])
        have HHAS := Lib.hid hhas
        clear hr hhas
        generalize hv : ahd l[hi].id id = v at *
        have HV := Lib.hid hv
        clear hv
        have hz := HZ.out
        go_wp2_with fail
        refine (ahead_all l[hi] la lc id _ HV.out).mono ?_
        rintro e w2 ⟨rfl, hb⟩
        have HB2 := Lib.hid (belows_then HB1.out HB1.out.size hb)
        clear hb hc0 hc1 hc2 hc3 hc4 hc5 hadl
        go_wp2_with fail
        go_ret2
        exact ⟨hi, by rw [HHAS.out]; rfl, HE.out, HB2.out⟩
      · have hf : has = false := by rw [← hhas]; exact HE.out.past hn
        subst hf
        have HHAS := Lib.hid hhas
        clear hhas
        go_wp2_with fail
        go_ret2
        exact ⟨hi, by rw [HHAS.out]; rfl, HE.out, HB1.out⟩

theorem find_any {w : World} {b : Nat} {a : Option Addr} {cap : Nat} {l : List Jn} {F : Nat → Prop} (h : BookAt w b a cap l F) (hl : l.length ≤ 100000) (hO : OrdJ l) (id : Int) (hid : I64 id) :
    Calls Tryz.prog 156 #[.pointer (some ⟨b, 0, none⟩), .int .i64 id] w (FindPost w l id) := by
  have hcb := blk_cells h.cell
  have HC := Lib.hid (bsearch_any l a cap id w h.sl hl hO hid)
  clear h hO hid
  go_enter Tryz.func156, Tryz.ntmps156
  go_wp2_with fail
  refine HC.out.mono ?_
  rintro e w' ⟨k, rfl, HE, hb⟩
  have H := Lib.hid HE
  clear HE
  go_wp2_with fail
  go_ret2
  exact ⟨k, rfl, H.out, hb⟩
end Go.Proofs.YtgggpaacagbmcaaGreat
