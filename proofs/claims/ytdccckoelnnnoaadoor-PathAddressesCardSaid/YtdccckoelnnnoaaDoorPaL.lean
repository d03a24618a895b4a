/- Path: lists of parts in memory; own. -/
import Derived.Test.YtdccckoelnnnoaaDoorPaP
import Derived.BigRegion
import Derived.Deep.RegionLaw
import Derived.Deep.RegionHeldLaw
namespace Go.Proofs.YtdccckoelnnnoaaDoor
open Go.RowKit
attribute [local go_sem ↓] Go.wp_at_zero Go.wp_at_succ

def ptVals (l : List Pt) : List Value := l.flatMap Pt.vals
theorem ptVals_length (l : List Pt) : (ptVals l).length = l.length * 3 := by
  induction l with
  | nil => rfl
  | cons o l ih => simp only [ptVals, List.flatMap_cons, List.length_append] at *; rw [ih]; simp [Pt.vals]; omega
theorem ptVals_append (l m : List Pt) : ptVals (l ++ m) = ptVals l ++ ptVals m := by simp [ptVals]
theorem ptVals_get : ∀ (l : List Pt) (i : Nat) (o : Pt), l[i]? = some o → ∀ (j : Nat) (u : Value), o.vals[j]? = some u → (ptVals l)[i * 3 + j]? = some u
  | [], i, o, h => by simp at h
  | x :: l, 0, o, h => fun j u hu => by
    simp only [List.getElem?_cons_zero, Option.some.injEq] at h
    subst h
    have hj : j < x.vals.length := (List.getElem?_eq_some_iff.1 hu).1
    simp only [ptVals, List.flatMap_cons]
    rw [Nat.zero_mul, Nat.zero_add, List.getElem?_append_left hj, hu]
  | x :: l, i + 1, o, h => fun j u hu => by
    have ih := ptVals_get l i o (by simpa using h) j u hu
    simp only [ptVals, List.flatMap_cons] at *
    rw [List.getElem?_append_right (by simp [Pt.vals]; omega)]
    rw [← ih]
    congr 1
    simp [Pt.vals]
    omega
theorem add_off3 (ad : Addr) (i k : Nat) (hk : 0 < k) : ad.add (i * 3 + k) = ⟨(ad.add (i * 3)).block, (ad.add (i * 3)).off + k, none⟩ := by
  unfold Addr.add
  split <;> split <;> simp_all <;> omega

/-- A list of parts lies in memory. -/
structure Pts (w : World) (A : Option Addr) (n : Nat) (L : List Pt) : Prop where
  rd : Reads w w.heap.size 3 A n (ptVals L)
  len : L.length = n
/-- The three cells of a part, as a walk writes their addresses. -/
structure PtAt (w : World) (ad : Addr) (i : Nat) (o : Pt) : Prop where
  c0 : w.cell? (ad.add (i * 3)) = some (.int .i64 o.kind)
  c1 : w.cell? ⟨(ad.add (i * 3)).block, (ad.add (i * 3)).off + 1, none⟩ = some (.int .i64 o.idx)
  c2 : w.cell? ⟨(ad.add (i * 3)).block, (ad.add (i * 3)).off + 2, none⟩ = some (.string o.name)

section
variable {w w' : World} {A : Option Addr} {ad : Addr} {n i : Nat} {L : List Pt} {o : Pt}
theorem Pts.same (h : Pts w A n L) (ho : Only Nobody w w') : Pts w' A n L := ⟨(h.rd.below (ho.below_all (fun _ _ x => x))).more ho.size, h.len⟩
theorem Pts.some_ (h : Pts w A n L) (hn : 0 < n) : ∃ ad, A = some ad := by
  obtain ⟨ad, e, _⟩ := h.rd.2 hn
  exact ⟨ad, e⟩
theorem Pts.at_ (h : Pts w (some ad) n L) (hi : L[i]? = some o) : PtAt w ad i o := by
  have hl : i < L.length := (List.getElem?_eq_some_iff.1 hi).1
  have hn := h.len
  obtain ⟨ad', e, _, hc⟩ := h.rd.2 (by omega)
  injection e with e
  subst e
  refine ⟨hc _ _ (ptVals_get L i o hi 0 _ rfl), ?_, ?_⟩
  · rw [← add_off3 ad i 1 (by omega)]; exact hc _ _ (ptVals_get L i o hi 1 _ rfl)
  · rw [← add_off3 ad i 2 (by omega)]; exact hc _ _ (ptVals_get L i o hi 2 _ rfl)
theorem Pts.get (h : Pts w A n L) (hi : i < n) : ∃ o, L[i]? = some o := ⟨_, List.getElem?_eq_getElem (by rw [h.len]; exact hi)⟩
theorem Pts.nil_ : Pts w none 0 [] := ⟨Reads.none_, rfl⟩
end
/-- A list of parts in a block of one's own, made behind a base. -/
theorem Pts.of_own {w : World} {base : Nat} {e : TypeId} {A : Option Addr} {n c : Nat} {L : List Pt} (h : w.ownsRow base e 3 (.slice A n c) n (ptVals L)) : Pts w A n L := by
  refine ⟨Reads.of_own h, ?_⟩
  have := h.1
  rw [ptVals_length] at this
  omega

theorem own_form {w : World} {base : Nat} {e : TypeId} {size n : Nat} {v : Value} {xs : List Value} (h : w.ownsRow base e size v n xs) : ∃ A c, v = .slice A n c := by
  rcases h.2 with ⟨rfl, h0⟩ | ⟨g, cap, cur, rfl, _⟩
  · exact ⟨none, 0, by rw [h0]⟩
  · exact ⟨_, _, rfl⟩
theorem infoPt : (Tryd.prog.info? 61).map (fun i => (i.zero, i.size, i.bytes)) = some (some (.agg #[.int .i64 0, .int .i64 0, .string ByteArray.empty]), 3, 32) := by kernel_rfl
theorem one_pt (o : Pt) : ∀ u ∈ o.vals, u.oneCell' = true := by intro u hu; simp only [Pt.vals, List.mem_cons, List.not_mem_nil, or_false] at hu; rcases hu with rfl | rfl | rfl <;> rfl

/-- A list of parts that a call returns: in a block of its own. -/
def OwnPost (L : List Pt) (w : World) (e : Ending) (w' : World) : Prop :=
  ∃ vo, e = .returned vo ∧ w'.ownsRow w.heap.size 61 3 vo L.length (ptVals L) ∧ Only Nobody w w'
set_option maxRecDepth 100000 in
set_option maxHeartbeats 4000000 in
theorem own_any (A : Option Addr) (n c : Nat) (L : List Pt) (hn : n ≤ 1000) (w : World) (h : Pts w A n L) : Calls Tryd.prog 11 #[.slice A n c] w (OwnPost L w) := by
  have HP := Lib.hid h
  clear h
  go_enter Tryd.func11, Tryd.ntmps11
  go_wp2_with fail
  go_loopw [3, 4] (fun ov i wx => ∃ k : Nat, i = .int .i64 (k : Int) ∧ k ≤ n ∧ Hid (wx.ownsRow w.heap.size 61 3 ov k (ptVals (L.take k))) ∧ Hid (Only Nobody w wx)) (fun _ i _ => n - (intOf i).toNat)
  case atStart => exact ⟨0, rfl, Nat.zero_le _, Lib.hid ⟨rfl, .inl ⟨rfl, rfl⟩⟩, Lib.hid (Only.refl _ _)⟩
  case round =>
    obtain ⟨k, rfl, hk, HOWN, HON⟩ := hrel
    by_cases hkm : k < n
    · have hkI : (k : Int) < (n : Int) := by omega
      have hk0 : (0 : Int) ≤ (k : Int) := by omega
      obtain ⟨ad, rfl⟩ := HP.out.some_ (by omega)
      obtain ⟨y, hy⟩ := HP.out.get hkm
      have HY := Lib.hid hy
      have HHC : Hid (∀ w', Only Nobody wr w' → w'.cell? (ad.add (k * 3)) = some (.int .i64 y.kind) ∧ w'.cell? ⟨(ad.add (k * 3)).block, (ad.add (k * 3)).off + 1, none⟩ = some (.int .i64 y.idx) ∧ w'.cell? ⟨(ad.add (k * 3)).block, (ad.add (k * 3)).off + 2, none⟩ = some (.string y.name)) := Lib.hid fun w' ho => by
        have := (HP.out.same (HON.out.trans ho)).at_ HY.out
        exact ⟨this.c0, this.c1, this.c2⟩
      have hcc := HHC.out wr (Only.refl _ _)
      obtain ⟨A7, c7, rfl⟩ := own_form HOWN.out
      obtain ⟨i0, hi0, hz0, hz1, hz2⟩ := info_parts infoPt
      clear hy
      have HR : Hid (Reads (wr.alloc (.cells #[.int .i64 y.kind, .int .i64 y.idx, .string y.name] 61)) (wr.heap.size + 1) 3 (some ⟨wr.heap.size, 0, none⟩) 1 y.vals) := Lib.hid (reads_alloc wr 61 #[.int .i64 y.kind, .int .i64 y.idx, .string y.name] 3 1 rfl)
      have HRD : Hid (Reads (wr.alloc (.cells #[.int .i64 y.kind, .int .i64 y.idx, .string y.name] 61)).drew (wr.heap.size + 1) 3 (some ⟨wr.heap.size, 0, none⟩) 1 y.vals) := Lib.hid (reads_alloc wr 61 #[.int .i64 y.kind, .int .i64 y.idx, .string y.name] 3 1 rfl)
      have HRW : Hid ((wr.alloc (.cells #[.int .i64 y.kind, .int .i64 y.idx, .string y.name] 61)).drew.ownsRow w.heap.size 61 3 (.slice A7 k c7) k (ptVals (L.take k))) := Lib.hid (Only.row (F := Nobody) (by repeat (first | exact Only.refl _ _ | refine Only.drew ?_ | refine Only.alloc ?_ _)) HOWN.out (fun _ _ x => x))
      have HBB : Hid (w.heap.size ≤ (wr.alloc (.cells #[.int .i64 y.kind, .int .i64 y.idx, .string y.name] 61)).drew.heap.size) := Lib.hid (by have := HON.out.size; simp; omega)
      have HBY : Hid (k + 1 ≤ maxLen ∧ (k + 1) * 32 ≤ 140737488355328) := Lib.hid (by unfold maxLen; omega)
      have HU := Lib.hid (one_pt y)
      go_upto_region 5 with fail
      go_region_held_law (fun w' => w'.cell? (ad.add (k * 3)) = some (.int .i64 y.kind) ∧ w'.cell? ⟨(ad.add (k * 3)).block, (ad.add (k * 3)).off + 1, none⟩ = some (.int .i64 y.idx) ∧ w'.cell? ⟨(ad.add (k * 3)).block, (ad.add (k * 3)).off + 2, none⟩ = some (.string y.name))
        (first | exact hcc | exact hce | exact HHC.out _ (by repeat (first | exact Only.refl _ _ | refine Only.drew ?_ | refine Only.alloc ?_ _)))
        ((refine step_append_any _ (by rfl) (.tmp 11) (.tmp 28) 29 (by rfl) w.heap.size 61 i0 _ 3 32 Tryd.underlying29 hi0 hz0 hz1 hz2 (by rfl) (by omega) (.slice A7 k c7) k (ptVals (L.take k)) (by rfl) HRW.out _ (some ⟨wr.heap.size, 0, none⟩) 1 1 y.vals (by rfl) HRD.out HU.out HBY.out.1 HBY.out.2 HBB.out ?_; intro v2 w1 hown' hgrow hat; have HO' := Lib.hid hown'; have HG := Lib.hid hgrow; have HWW : Hid (Only Nobody w w1) := Lib.hid (HON.out.trans_more ((((Only.refl (fun x => w.heap.size ≤ x) wr).alloc _).drew.trans (Only.of_grown HG.out (fun g' e => (HOWN.out.lt g' e).1))).mono (fun x hx => .inr hx))); have hce := (let q := (HP.out.same HWW.out).at_ HY.out; And.intro q.c0 (And.intro q.c1 q.c2)); clear hown' hgrow hat))
      all_goals
        go_wp2_with fail
        go_roundw
        case rel =>
          have HOWN3 : Hid (w1.ownsRow w.heap.size 61 3 v2 (k + 1) (ptVals (L.take (k + 1)))) := Lib.hid (by
            have hy := HY.out
            have hk : k < L.length := (List.getElem?_eq_some_iff.1 hy).1
            have hyy : L[k] = y := by rw [List.getElem?_eq_getElem hk] at hy; exact Option.some.inj hy
            rw [List.take_succ_eq_append_getElem hk, hyy, ptVals_append, show ptVals [y] = y.vals by simp [ptVals]]
            exact HO'.out)
          first
          | exact ⟨k + 1, by go_num, by omega, HOWN3, HWW⟩
          | ((repeat apply Exists.intro); exact ⟨⟨k + 1, by go_num, by omega, HOWN3, HWW⟩, rfl⟩)
        case measure => simp [intOf]; omega
    · obtain rfl : k = n := by omega
      go_wp2_with fail
      go_ret
      refine ⟨u3, rfl, ?_, HON.out⟩
      have := HOWN.out
      rw [List.take_of_length_le (by rw [HP.out.len]; exact Nat.le_refl _)] at this
      rw [HP.out.len]
      exact this
end Go.Proofs.YtdccckoelnnnoaaDoor
