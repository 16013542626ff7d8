/- GatesPlay: All tells the document's gates; the law's operations, read. -/
import Derived.Test.YtacemlbfifhllaaGreatX41GatesPlay
import Derived.Test.YtacemlbfifhllaaGreatX46GatesPlay
import Derived.Test.YtacemlbfifhllaaGreatX14GatesPlay
set_option linter.unusedVariables false
set_option linter.unusedSimpArgs false
namespace Go.Proofs.YtacemlbfifhllaaGreat
open Go.RowKit Go.Maps Go.Sort Go.Deep

theorem srtG_rise {L : List FG} (h : (L.map zG).Nodup) : ((srtG L).map zG).Pairwise (fun x y => x.1 < y.1 ∨ x.1 = y.1 ∧ x.2 < y.2) := by
  have hn : L.Nodup := by
    rw [List.Nodup, List.pairwise_map] at h
    exact List.Pairwise.imp (fun hne e => hne (congrArg zG e)) h
  have h1 : (srtG L).Pairwise (fun x y => (!(ltOf cfG) y x) = true) := by
    unfold srtG
    refine List.pairwise_mergeSort (fun x y z h1 h2 => ?_) (fun x y => ?_) L
    · rw [ltGf] at *; simp at *; omega
    · rw [ltGf, ltGf]; simp; omega
  have h2 : (srtG L).Nodup := (List.mergeSort_perm L _).nodup_iff.2 hn
  rw [List.pairwise_map]
  refine (h1.and h2).imp (fun {x y} ⟨a, b⟩ => ?_)
  have hlt : ltOf cfG x y = true := by
    cases hc : ltOf cfG x y with
    | true => rfl
    | false => exact absurd (totG x y hc (by simpa using a)) b
  rw [ltGf] at hlt
  simp only [decide_eq_true_eq] at hlt
  unfold zG
  simp only
  omega
theorem zG_toG {k : Int × Int} (h1 : 0 ≤ k.1) (h2 : k.1 ≤ 9) (h3 : 0 ≤ k.2) (h4 : k.2 ≤ 1199) : zG (toG k) = k := by
  obtain ⟨a, b⟩ := k
  simp only at h1 h2 h3 h4
  unfold zG toG
  simp only [Fin.ofNat]
  rw [Prod.mk.injEq]
  constructor <;> omega
theorem GInv.key {l : Gs} {R : List Gt} (h : GInv l R) {k : Int × Int} (hk : k ∈ l.map (·.1)) : 0 ≤ k.1 ∧ k.1 ≤ 9 ∧ 0 ≤ k.2 ∧ k.2 ≤ 1199 := by
  obtain ⟨x, hx, rfl⟩ := List.mem_map.1 hk
  have hs : ∃ s, look l x.1 = some s := by
    unfold look
    cases hf : l.find? (fun y => decide (y.1 = x.1)) with
    | none => have := List.find?_eq_none.1 hf x hx; simp at this
    | some y => exact ⟨y.2, rfl⟩
  obtain ⟨s, hs⟩ := hs
  have hr := (h.ok _ ((h.mem x.1.1 x.1.2 s).1 hs)).1
  unfold placeOk monthOk at hr
  simp only [Bool.and_eq_true, decide_eq_true_eq] at hr
  omega
theorem GInv.val {l : Gs} {R : List Gt} (h : GInv l R) (e p : Int) : I64 (stateOf l e p) := by
  unfold stateOf
  cases hl : look l (e, p) with
  | none => show I64 0; decide
  | some s =>
    have := (h.ok _ ((h.mem e p s).1 hl)).2
    simp only at this
    exact i64_ofB (by simp; omega) (by simp; omega)
theorem keysFG {l : Gs} {R : List Gt} (h : GInv l R) (hn : (l.map (·.1)).Nodup) : ∃ L : List FG, l.map (·.1) = L.map zG ∧ allK l ((srtG L).map zG) = R := by
  have hz : ((l.map (·.1)).map toG).map zG = l.map (·.1) := by
    rw [List.map_map]
    refine (List.map_congr_left (fun k hk => ?_)).trans (List.map_id _)
    obtain ⟨h1, h2, h3, h4⟩ := h.key hk
    exact zG_toG h1 h2 h3 h4
  obtain ⟨L, hL⟩ : ∃ L, (l.map (·.1)).map toG = L := ⟨_, rfl⟩
  rw [hL] at hz
  refine ⟨L, hz.symm, allK_ref h (srtG_rise (by rw [hz]; exact hn)) (fun k => ?_)⟩
  rw [← hz]
  constructor
  · intro hk
    obtain ⟨x, hx, rfl⟩ := List.mem_map.1 hk
    exact List.mem_map.2 ⟨x, (List.mergeSort_perm L _).mem_iff.1 hx, rfl⟩
  · intro hk
    obtain ⟨x, hx, rfl⟩ := List.mem_map.1 hk
    exact List.mem_map.2 ⟨x, (List.mergeSort_perm L _).mem_iff.2 hx, rfl⟩
theorem play_all {w : World} {g : Nat} {r : Option Nat} {l : Gs} {R : List Gt} (h : GatesAt w g r l) (hI : GInv l R) (hl : l.length ≤ 1000) :
    Calls Tryz.prog 8 #[.pointer (some ⟨g, 0, none⟩)] w fun e w' => ∃ v, e = .returned v ∧ OwnL tTrio w' w.heap.size v R ∧ Below w.heap.size w w' := by
  have hn : (l.map (·.1)).Nodup := by
    rcases h.map with ⟨_, rfl⟩ | ⟨b, _, hm⟩
    · exact List.Pairwise.nil
    · exact hm.once
  obtain ⟨L, h1, h2⟩ := keysFG hI hn
  have := allG_any h L h1 hl hI.val
  rwa [h2] at this
theorem ins_lenG (s : Gs) (k : Int × Int) (v : Int) : (ins s k v).length ≤ s.length + 1 := by
  induction s with
  | nil => simp [ins]
  | cons x r ih =>
    unfold ins
    split
    · simp
    · simp only [List.length_cons]; omega
theorem setL_len (l : Gs) (e p s : Int) : (setL l e p s).length ≤ l.length + 1 := by
  unfold setL
  split
  · have := List.length_filter_le (fun x : (Int × Int) × Int => decide (x.1 ≠ (e, p))) l
    unfold del
    omega
  · exact ins_lenG _ _ _

/-- an operation of the law -/
structure Gop where
  en : Int
  pe : Int
  st : Int
  cp : Bool
def Gop.mk' (x : Int × Int × Int × Bool × Unit) : Gop := ⟨x.1, x.2.1, x.2.2.1, x.2.2.2.1⟩
def fGop : Flds Tryz.prog [fld "Entity" 3 0 0, fld "Period" 3 1 8, fld "State" 3 2 16, fld "Copy" 4 3 24] 0 (Int × Int × Int × Bool × Unit) :=
  Flds.cons (f := fld "Entity" 3 0 0) tInt rfl (Flds.cons (f := fld "Period" 3 1 8) tInt rfl (Flds.cons (f := fld "State" 3 2 16) tInt rfl (Flds.cons (f := fld "Copy" 4 3 24) tBool rfl (Flds.nil _ _))))
def tGop : Ty Tryz.prog 43 Gop := (Ty.struct Tryz.underlying43 fGop (by kernel_rfl)).map Gop.mk'
def tGops : Ty Tryz.prog 22 (List Gop) := Ty.slice Tryz.underlying22 (by kernel_rfl) tGop (by decide)
theorem gop_inv {w : World} {F : Nat → Prop} {cs : List Value} {x : Gop} (h : tGop.R w F cs x) : cs = [.int .i64 x.en, .int .i64 x.pe, .int .i64 x.st, .bool x.cp] ∧ I64 x.en ∧ I64 x.pe ∧ I64 x.st := by
  obtain ⟨y, rfl, c1, c2, rfl, ⟨rfl, h1⟩, c3, c4, rfl, ⟨rfl, h2⟩, c5, c6, rfl, ⟨rfl, h3⟩, c7, c8, rfl, rfl, rfl⟩ := h
  exact ⟨rfl, h1, h2, h3⟩
theorem gop_at {w : World} {F : Nat → Prop} {a : Option Addr} {l : List Gop} (h : Sl tGop w F a l) (i : Nat) (hi : i < l.length) :
    ∃ ad, a = some ad ∧ ad.block < w.heap.size ∧ w.cell? (ad.add (i * 4)) = some (.int .i64 l[i].en) ∧ w.cell? ⟨(ad.add (i * 4)).block, (ad.add (i * 4)).off + 1, none⟩ = some (.int .i64 l[i].pe) ∧ w.cell? ⟨(ad.add (i * 4)).block, (ad.add (i * 4)).off + 2, none⟩ = some (.int .i64 l[i].st) ∧ w.cell? ⟨(ad.add (i * 4)).block, (ad.add (i * 4)).off + 3, none⟩ = some (.bool l[i].cp) ∧ I64 l[i].en ∧ I64 l[i].pe ∧ I64 l[i].st := by
  obtain ⟨ad, ces, rfl, _, hlt, hc, hr⟩ := h i l[i] (List.getElem?_eq_getElem hi)
  obtain ⟨rfl, h1, h2, h3⟩ := gop_inv hr
  rw [show tGop.n = 4 from rfl] at hc
  refine ⟨ad, rfl, hlt, ?_, ?_, ?_, ?_, h1, h2, h3⟩
  · have := hc 0 _ rfl
    simpa [Addr.add] using this
  · have := hc 1 _ rfl
    rw [Addr.add] at this
    simpa using this
  · have := hc 2 _ rfl
    rw [Addr.add] at this
    simpa using this
  · have := hc 3 _ rfl
    rw [Addr.add] at this
    simpa using this
end Go.Proofs.YtacemlbfifhllaaGreat
