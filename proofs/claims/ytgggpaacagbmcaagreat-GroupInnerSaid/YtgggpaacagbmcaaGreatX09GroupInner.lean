/- book.Of, law6.Of at journals in the order of their numbers. -/
import Derived.Test.YtgggpaacagbmcaaGreatX08GroupInner
set_option linter.unusedVariables false
set_option linter.unusedSimpArgs false
namespace Go.Proofs.YtgggpaacagbmcaaGreat
open Go.RowKit Go.Maps

def IncJ (l : List Jn) : Prop := ∀ i k (hi : i < l.length) (hk : k < l.length), i < k → l[i].id < l[k].id
def ofFrom : List Jn → List Jn → Bool
  | _, [] => true
  | d, x :: r => postJ d x == 0 && ofFrom (d ++ [x]) r
def ofB (l : List Jn) : Bool := ofFrom [] l

theorem ofFrom_step {l : List Jn} {n : Nat} (h : n < l.length) : ofFrom (l.take n) (l.drop n) = (postJ (l.take n) l[n] == 0 && ofFrom (l.take (n + 1)) (l.drop (n + 1))) := by
  rw [List.drop_eq_getElem_cons h, ofFrom, List.take_succ_eq_append_getElem h]

theorem ordJ_step {l : List Jn} (hi : IncJ l) {n : Nat} (h : n < l.length) (hO : OrdJ (l.take n)) (hc : postJ (l.take n) l[n] = 0) : OrdJ (l.take (n + 1)) := by
  have hk : chk l[n] = 0 := by
    rcases post_cases (l.take n) l[n] with ⟨h1, h2⟩ | ⟨h1, _⟩
    · rw [hc] at h2; exact h2.symm
    · simpa using h1
  refine ⟨fun i k h1 h2 hik => ?_, fun x hx => ?_⟩
  · simp only [List.length_take] at h1 h2
    rw [List.getElem_take, List.getElem_take]
    exact hi i k (by omega) (by omega) hik
  · rw [List.take_succ_eq_append_getElem h] at hx
    rcases List.mem_append.1 hx with hx | hx
    · exact hO.ok x hx
    · simp at hx
      subst hx
      exact ⟨(chk_id hk).1, (chk_id hk).2.1⟩
theorem inc_new {l : List Jn} (hi : IncJ l) {n : Nat} (h : n < l.length) : ∀ x ∈ l.take n, x.id < l[n].id := by
  intro x hx
  obtain ⟨t, ht, rfl⟩ := List.getElem_of_mem hx
  simp only [List.length_take] at ht
  rw [List.getElem_take]
  exact hi t n (by omega) h (by omega)

def OfPost (w : World) (l : List Jn) (e : Ending) (w' : World) : Prop :=
  ((ofB l = true ∧ ∃ g a c, e = .returned (.tuple #[.pointer (some ⟨g, 0, none⟩), .int .i64 0]) ∧ w.heap.size ≤ g ∧ BookAt w' g a c l (fun k => w.heap.size ≤ k)) ∨
   (ofB l = false ∧ ∃ x : Int, (x != 0) = true ∧ e = .returned (.tuple #[.pointer none, .int .i64 x]))) ∧ Below w.heap.size w w'

set_option maxHeartbeats 8000000 in
set_option maxRecDepth 100000 in
theorem bof_any (l : List Jn) (a : Option Addr) (cap : Nat) (w : World) {F : Nat → Prop} (hs : Sl tJn w F a l) (hl : l.length ≤ 1000) (hinc : IncJ l) :
    Calls Tryz.prog 88 #[.slice a l.length cap] w (OfPost w l) := by
  have HS := Lib.hid hs
  have HI := Lib.hid hinc
  clear hs hinc
  have hz : (w.alloc (.cells #[.slice none 0 0] 188)).heap[w.heap.size]? = some (.cells #[.slice none 0 0] 188 (0, 0)) := blk_new w _
  have HB := Lib.hid ((Below.refl w.heap.size w).alloc (Nat.le_refl _) (.cells #[.slice none 0 0] 188))
  have H0 : Hid (BookOwn (w.alloc (.cells #[.slice none 0 0] 188)) w.heap.size w.heap.size (.slice none 0 0) []) := Lib.hid ⟨hz, Nat.le_refl _, OwnF.nil _ _ _⟩
  clear hz
  go_enter Tryz.func88, Tryz.ntmps88
  go_wp2_with fail
  go_loopw [15] (fun vi wr => ∃ (n : Nat) (v : Value), n ≤ l.length ∧ vi = .int .i64 n ∧ BookOwn wr w.heap.size w.heap.size v (l.take n) ∧ Below w.heap.size w wr ∧ OrdJ (l.take n) ∧ Hid (ofFrom (l.take n) (l.drop n) = ofB l)) (fun vi _ => l.length - (Go.RowKit.intOf vi).toNat)
  case atStart => exact ⟨0, _, Nat.zero_le _, rfl, H0.out, HB.out, ⟨fun i k h => by simp at h, fun x hx => by simp at hx⟩, Lib.hid rfl⟩
  case round =>
    obtain ⟨n, v, hn, rfl, hbk, hb, hO, hof⟩ := hrel
    have HK := Lib.hid hbk
    have HB1 := Lib.hid hb
    have HO := Lib.hid hO
    clear hbk hb hO H0
    by_cases hlt : n < l.length
    · obtain ⟨ad, la, lc, rfl, _, hadl, hc0, hc1, hc2, hc3, hc4, hc5, hr⟩ := jn_at (Sl.keep (fun k hk _ => HB1.out.block k hk) HS.out) n hlt
      have HR := Lib.hid (tJn.keep (w' := wr.alloc (.cells #[.int .i64 l[n].id, .int .i64 l[n].en, .int .i64 l[n].pe, .string l[n].ref, .slice la l[n].lines.length lc, .bool l[n].void] 81)) (fun k hk _ => Below.heap_alloc wr _ k hk) hr)
      have HBK : Hid (BookOwn (wr.alloc (.cells #[.int .i64 l[n].id, .int .i64 l[n].en, .int .i64 l[n].pe, .string l[n].ref, .slice la l[n].lines.length lc, .bool l[n].void] 81)) w.heap.size w.heap.size v (l.take n)) := Lib.hid (HK.out.below ((Below.refl _ _).alloc (Nat.le_refl _) _))
      have HBA := Lib.hid (HB1.out.alloc HB1.out.size (.cells #[.int .i64 l[n].id, .int .i64 l[n].en, .int .i64 l[n].pe, .string l[n].ref, .slice la l[n].lines.length lc, .bool l[n].void] 81))
      have HNEW := Lib.hid (inc_new HI.out hlt)
      have HSTEP := Lib.hid (ofFrom_step hlt)
      have hlen : (l.take n).length ≤ 1000 := by rw [List.length_take]; omega
      generalize hp : postJ (l.take n) l[n] = p
      have HP := Lib.hid hp
      clear hr hp
      go_wp2_with fail
      refine (post_end HBK.out HBA.out.size hlen HO.out l[n] la lc HR.out HNEW.out).mono ?_
      rintro e w2 ⟨rfl, hb, h1, h2⟩
      rw [HP.out] at h1 h2
      have HB2 := Lib.hid (HBA.out.trans hb)
      clear hb hc0 hc1 hc2 hc3 hc4 hc5 hadl
      by_cases hp0 : p = 0
      · subst hp0
        obtain ⟨v2, hk2⟩ := h2 rfl
        have HK2 := Lib.hid hk2
        have hpp := HP.out
        clear h1 h2 hk2
        rw [HP.out]
        clear hpp
        go_wp2_with fail
        go_roundw
        case rel => exact ⟨n + 1, v2, by omega, by go_num, by rw [List.take_succ_eq_append_getElem hlt]; exact HK2.out, HB2.out, ordJ_step HI.out hlt HO.out HP.out, Lib.hid (by rw [← hof.out, HSTEP.out, HP.out]; simp)⟩
        case measure => simp [Go.RowKit.intOf]; omega
      · have hq : (p != 0) = true := by simpa using hp0
        have HF : Hid (ofB l = false) := Lib.hid (by rw [← hof.out, HSTEP.out, HP.out]; simp [hp0])
        clear h1 h2
        rw [HP.out]
        go_wp2_with fail
        go_ret2
        exact ⟨.inr ⟨HF.out, p, hq, rfl⟩, HB2.out⟩
    · have HT : Hid (ofB l = true) := Lib.hid (by rw [← hof.out, List.drop_eq_nil_of_le (by omega)]; rfl)
      have HL : Hid (l.take n = l) := Lib.hid (take_all hn hlt)
      go_wp2_with fail
      go_ret2
      obtain ⟨a', c', rfl, hat⟩ := HK.out.at_
      rw [HL.out] at hat
      exact ⟨.inl ⟨HT.out, w.heap.size, a', c', rfl, Nat.le_refl _, hat⟩, HB1.out⟩

def LOf (w : World) (l : List Jn) (e : Ending) (w' : World) : Prop :=
  (ofB l = true → ∃ g a c, e = .returned (.pointer (some ⟨g, 0, none⟩)) ∧ w.heap.size ≤ g ∧ BookAt w' g a c l (fun k => w.heap.size ≤ k)) ∧ (ofB l = false → e = .returned (.pointer none)) ∧ Below w.heap.size w w'

theorem lof_any (l : List Jn) (a : Option Addr) (cap : Nat) (w : World) {F : Nat → Prop} (hs : Sl tJn w F a l) (hl : l.length ≤ 1000) (hinc : IncJ l) :
    Calls Tryz.prog 26 #[.slice a l.length cap] w (LOf w l) := by
  have HC := Lib.hid (bof_any l a cap w hs hl hinc)
  clear hs hinc
  go_enter Tryz.func26, Tryz.ntmps26
  go_wp2_with fail
  refine HC.out.mono ?_
  rintro e w' ⟨⟨ht, g, a', c', rfl, hg, hat⟩ | ⟨hf, x, hx, rfl⟩, hb⟩
  · have HT := Lib.hid ht
    have HA := Lib.hid hat
    clear ht hat
    go_wp2_with fail
    go_ret
    exact ⟨fun _ => ⟨g, a', c', rfl, hg, HA.out⟩, fun h => (by rw [HT.out] at h; cases h), hb⟩
  · have HF := Lib.hid hf
    clear hf
    go_wp2_with fail
    go_ret
    exact ⟨fun h => (by rw [HF.out] at h; cases h), fun _ => rfl, hb⟩

theorem lof_yes (l : List Jn) (a : Option Addr) (cap : Nat) (w : World) {F : Nat → Prop} (hs : Sl tJn w F a l) (hl : l.length ≤ 1000) (hinc : IncJ l) (h : ofB l = true) :
    Calls Tryz.prog 26 #[.slice a l.length cap] w fun e w' => ∃ g a c, e = .returned (.pointer (some ⟨g, 0, none⟩)) ∧ w.heap.size ≤ g ∧ BookAt w' g a c l (fun k => w.heap.size ≤ k) ∧ Below w.heap.size w w' := by
  refine (lof_any l a cap w hs hl hinc).mono ?_
  rintro e w' ⟨h1, _, h3⟩
  obtain ⟨g, a', c', he, hg, hat⟩ := h1 h
  exact ⟨g, a', c', he, hg, hat, h3⟩
theorem lof_no (l : List Jn) (a : Option Addr) (cap : Nat) (w : World) {F : Nat → Prop} (hs : Sl tJn w F a l) (hl : l.length ≤ 1000) (hinc : IncJ l) (h : ofB l = false) :
    Calls Tryz.prog 26 #[.slice a l.length cap] w fun e w' => e = .returned (.pointer none) ∧ Below w.heap.size w w' := by
  refine (lof_any l a cap w hs hl hinc).mono ?_
  rintro e w' ⟨_, h2, h3⟩
  exact ⟨h2 h, h3⟩
end Go.Proofs.YtgggpaacagbmcaaGreat


/- book: All, Get. -/
set_option linter.unusedVariables false
set_option linter.unusedSimpArgs false
namespace Go.Proofs.YtgggpaacagbmcaaGreat
open Go.RowKit Go.Maps

theorem app_cells {w2 : World} {x : Jn} {la : Option Addr} {lc : Nat} {base B : Nat} {F : Nat → Prop} {vo : Value} {O : List Jn} (hr : tJn.R w2 (fun k => B ≤ k ∧ k < w2.heap.size) (jcs x la lc) x) (hB : ∀ k, vo.ownBlock = some k → k < B) (hF : ∀ k, B ≤ k → F k) (o : Obj)
    (ho : o = .cells #[.int .i64 x.id, .int .i64 x.en, .int .i64 x.pe, .string x.ref, .slice la x.lines.length lc, .bool x.void] 81) :
    ∀ i y, [x][i]? = some y → ∃ ces, (∀ k u, ces[k]? = some u → (w2.alloc o).cell? (((⟨w2.heap.size, 0, none⟩ : Addr).add (i * tJn.n)).add k) = some u) ∧ tJn.R (w2.alloc o) (fun k => F k ∧ some k ≠ vo.ownBlock ∧ k < (w2.alloc o).heap.size) ces y := by
  subst ho
  refine cells_oneJ (a := la) (cap := lc) (blk_new w2 _) ?_
  refine tJn.mono (fun k hk hf => ⟨hF k hf.1, fun e => ?_, hk⟩) (tJn.keep (fun k hk _ => Below.heap_alloc w2 _ k hk) hr)
  have := hB _ e.symm
  have hf' := hf.1
  omega

def AllPostJ (w : World) (l : List Jn) (e : Ending) (w' : World) : Prop :=
  ∃ v, e = .returned v ∧ OwnF tJn w' w.heap.size (fun k => w.heap.size ≤ k) v l ∧ Below w.heap.size w w'

set_option maxHeartbeats 8000000 in
set_option maxRecDepth 100000 in
theorem ball_any {w : World} {b : Nat} {a : Option Addr} {cap : Nat} {l : List Jn} {F : Nat → Prop} (h : BookAt w b a cap l F) (hl : l.length ≤ 1000) (hne : ∀ x ∈ l, x.lines ≠ []) :
    Calls Tryz.prog 78 #[.pointer (some ⟨b, 0, none⟩)] w (AllPostJ w l) := by
  have hcb := blk_cells h.cell
  have HS := Lib.hid h.sl
  have HNE := Lib.hid hne
  clear h hne
  obtain ⟨i0, hi, hz0, hz1, hz2⟩ := info_parts infoJ
  go_enter Tryz.func78, Tryz.ntmps78
  go_wp2_with fail
  clear hcb
  go_loopw [3, 13] (fun vo vi wr => ∃ (n : Nat) (vx : Value), vx = vo ∧ n ≤ l.length ∧ vi = .int .i64 n ∧ OwnF tJn wr w.heap.size (fun k => w.heap.size ≤ k) vx (l.take n) ∧ Below w.heap.size w wr) (fun _ vi _ => l.length - (Go.RowKit.intOf vi).toNat)
  case atStart => exact ⟨0, _, rfl, Nat.zero_le _, rfl, OwnF.nil _ _ _, Below.refl _ _⟩
  case round =>
    obtain ⟨n, vo, rfl, hn, rfl, ho, hb⟩ := hrel
    have HO := Lib.hid ho
    have HB1 := Lib.hid hb
    clear ho hb
    by_cases hlt : n < l.length
    · obtain ⟨ad, la, lc, rfl, _, hadl, hc0, hc1, hc2, hc3, hc4, hc5, hr⟩ := jn_at (Sl.keep (fun k hk _ => HB1.out.block k hk) HS.out) n hlt
      have HR := Lib.hid (tJn.keep (w' := wr.alloc (.cells #[.int .i64 l[n].id, .int .i64 l[n].en, .int .i64 l[n].pe, .string l[n].ref, .slice la l[n].lines.length lc, .bool l[n].void] 81)) (fun k hk _ => Below.heap_alloc wr _ k hk) hr)
      have HBA := Lib.hid (HB1.out.alloc HB1.out.size (.cells #[.int .i64 l[n].id, .int .i64 l[n].en, .int .i64 l[n].pe, .string l[n].ref, .slice la l[n].lines.length lc, .bool l[n].void] 81))
      have HOA := Lib.hid (HO.out.alloc (.cells #[.int .i64 l[n].id, .int .i64 l[n].en, .int .i64 l[n].pe, .string l[n].ref, .slice la l[n].lines.length lc, .bool l[n].void] 81))
      have HLN := Lib.hid (HNE.out l[n] (List.getElem_mem hlt))
      have hlen : (l.take n).length + [l[n]].length ≤ 1001 := by rw [List.length_take]; simp only [List.length_cons, List.length_nil]; omega
      clear hr
      go_wp2_with fail
      refine (ecopy_any l[n] la lc _ HR.out HLN.out).mono ?_
      rintro e w2 ⟨a2, c2, rfl, hb, hr⟩
      have HB2 := Lib.hid (belows_then HBA.out HBA.out.size hb)
      have HO2 := Lib.hid ((HOA.out.below hb).alloc (.cells #[.int .i64 l[n].id, .int .i64 l[n].en, .int .i64 l[n].pe, .string l[n].ref, .slice a2 l[n].lines.length c2, .bool l[n].void] 81))
      have HX := Lib.hid (app_cells (F := fun k => w.heap.size ≤ k) (base := 0) (O := []) (vo := vo) hr (fun k e => (HOA.out.lt k e).2) (fun k hk => Nat.le_trans HBA.out.size hk) _ rfl)
      clear hb hr hc0 hc1 hc2 hc3 hc4 hc5 hadl
      go_wp2_with (at_builtin; refine wp_appF (T := tJn) rfl _ _ 23 rfl i0 (.agg #[.int .i64 0, .int .i64 0, .int .i64 0, .string ⟨#[]⟩, .slice none 0 0, .bool false]) 72 Tryz.underlying23 hi hz0 hz1 hz2 rfl (by decide) jn_one w.heap.size (fun k => w.heap.size ≤ k) vo (l.take n) rfl HO2.out ⟨w2.heap.size, 0, none⟩ 1 [l[n]] rfl HX.out (by unfold maxLen; omega) (by omega) (by have := HB2.out.size; simp; omega) ?_; intro v3 w3 hown hg hnil hat; have HO3 := Lib.hid hown; have HB3 := Lib.hid (Below.grown (Below.alloc HB2.out HB2.out.size _) hg (Nat.le_trans HB2.out.size (by simp)) (fun k e => (HO2.out.lt k e).1)); clear hown hg hnil hat)
      go_roundw
      case rel => exact ⟨n + 1, _, rfl, by omega, by go_num, by rw [List.take_succ_eq_append_getElem hlt]; exact HO3.out, HB3.out⟩
      case measure => simp [Go.RowKit.intOf]; omega
    · have HL : Hid (l.take n = l) := Lib.hid (take_all hn hlt)
      go_wp2_with fail
      go_ret
      exact ⟨vo, rfl, by have := HO.out; rwa [HL.out] at this, HB1.out⟩
end Go.Proofs.YtgggpaacagbmcaaGreat
