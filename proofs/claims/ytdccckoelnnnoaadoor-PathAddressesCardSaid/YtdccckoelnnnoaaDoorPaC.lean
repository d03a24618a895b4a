/- Path: Covers (the package's, the reference's), same. (printed by gen_pac.py) -/
import Derived.Test.YtdccckoelnnnoaaDoorPaL
namespace Go.Proofs.YtdccckoelnnnoaaDoor
open Go.RowKit
attribute [local go_sem ↓] Go.wp_at_zero Go.wp_at_succ

def coverB (a b : Pt) : Bool := decide (a = b) || (decide (a.kind = 3) && decide (a.idx = 0) && decide (a.name.size = 0) && decide (b.kind = 2))
/-- The first parts cover one another. -/
def CovTo (a b : List Pt) (j : Nat) : Prop := ∀ i x y, i < j → a[i]? = some x → b[i]? = some y → coverB x y = true
def coversL : List Pt → List Pt → Bool
  | [], _ => true
  | _ :: _, [] => false
  | x :: a, y :: b => coverB x y && coversL a b
theorem coversL_len : ∀ (a b : List Pt), b.length < a.length → coversL a b = false
  | [], b, h => by simp at h
  | x :: a, [], h => rfl
  | x :: a, y :: b, h => by
    have := coversL_len a b (by simpa using h)
    unfold coversL
    rw [this, Bool.and_false]
theorem coversL_no : ∀ (a b : List Pt) (i : Nat) (x y : Pt), a[i]? = some x → b[i]? = some y → coverB x y = false → coversL a b = false
  | [], b, i, x, y, h, _, _ => by simp at h
  | p :: a, [], i, x, y, _, h, _ => by simp at h
  | p :: a, q :: b, 0, x, y, h1, h2, h => by
    simp at h1 h2
    subst h1; subst h2
    unfold coversL
    rw [h, Bool.false_and]
  | p :: a, q :: b, i + 1, x, y, h1, h2, h => by
    unfold coversL
    rw [coversL_no a b i x y (by simpa using h1) (by simpa using h2) h, Bool.and_false]
theorem coversL_yes : ∀ (a b : List Pt), a.length ≤ b.length → CovTo a b a.length → coversL a b = true
  | [], b, _, _ => by unfold coversL; rfl
  | p :: a, [], h, _ => by simp at h
  | p :: a, q :: b, h, hc => by
    unfold coversL
    rw [hc 0 p q (by simp) rfl rfl, coversL_yes a b (by simpa using h) (fun i x y hi h1 h2 => hc (i + 1) x y (by simpa using hi) (by simpa using h1) (by simpa using h2))]
    rfl
theorem CovTo.next {a b : List Pt} {j : Nat} {x y : Pt} (h : CovTo a b j) (h1 : a[j]? = some x) (h2 : b[j]? = some y) (hc : coverB x y = true) : CovTo a b (j + 1) := by
  intro i u v hi hu hv
  by_cases e : i = j
  · subst e
    rw [h1] at hu; rw [h2] at hv
    injection hu with hu; injection hv with hv
    subst hu; subst hv
    exact hc
  · exact h i u v (by omega) hu hv
theorem toList_ne {a b : ByteArray} (h : ¬ a = b) : (a.toList == b.toList) = false := by
  have : ¬ a.toList = b.toList := fun e => h (str_ext (by rw [toList_data, toList_data] at e; exact e))
  simpa using this
theorem nil_ne {b : ByteArray} (h : ¬ (⟨#[]⟩ : ByteArray) = b) : ¬ b.size = 0 := fun e => h (size_zero e).symm
theorem nil_toList : ByteArray.toList ⟨#[]⟩ = [] := by rw [toList_data]

theorem nil_eq_ne {b : ByteArray} (h : ¬ b.size = 0) : ¬ ([] : List UInt8) = b.toList := fun e => ne_nil2 h e.symm

set_option maxRecDepth 100000 in
set_option maxHeartbeats 8000000 in
theorem rcovers_any (A B : Option Addr) (n c m d : Nat) (L M : List Pt) (w : World) (hn : n ≤ 1000) (ha : Pts w A n L) (hb : Pts w B m M) : Calls Tryd.prog 25 #[.slice A n c, .slice B m d] w fun e w' => e = .returned (.bool (coversL L M)) ∧ Only Nobody w w' := by
  have HA := Lib.hid ha
  have HB := Lib.hid hb
  by_cases hlen : m < n
  · have HF : Hid (false = coversL L M) := Lib.hid (coversL_len L M (by rw [ha.len, hb.len]; exact hlen)).symm
    have hI : (m : Int) < (n : Int) := by omega
    clear ha hb hlen
    go_enter Tryd.func25, Tryd.ntmps25
    go_wp2_with fail
    go_ret
    exact ⟨ret_bool HF.out, Only.refl _ _⟩
  have hI : ¬ (m : Int) < (n : Int) := by omega
  have HEND : Hid (CovTo L M n → true = coversL L M) := Lib.hid fun h => (coversL_yes L M (by rw [ha.len, hb.len]; omega) (by rw [ha.len]; exact h)).symm
  clear ha hb
  go_enter Tryd.func25, Tryd.ntmps25
  go_wp2_with fail
  go_loopw [5] (fun i wx => ∃ k : Nat, i = .int .i64 (k : Int) ∧ k ≤ n ∧ Hid (CovTo L M k) ∧ Hid (Only Nobody w wx)) (fun i _ => n - (intOf i).toNat)
  case atStart => exact ⟨0, rfl, Nat.zero_le _, Lib.hid (fun i _ _ h => absurd h (by omega)), Lib.hid (Only.refl _ _)⟩
  case round =>
    obtain ⟨k, rfl, hk, HC, HON⟩ := hrel
    by_cases hkm : k < n
    · have hkI : (k : Int) < (n : Int) := by omega
      have hkJ : (k : Int) < (m : Int) := by omega
      have hk0 : (0 : Int) ≤ (k : Int) := by omega
      obtain ⟨ad, rfl⟩ := HA.out.some_ (by omega)
      obtain ⟨bd, rfl⟩ := HB.out.some_ (by omega)
      obtain ⟨⟨k1, i1, n1⟩, hx⟩ := HA.out.get hkm
      obtain ⟨⟨k2, i2, n2⟩, hy⟩ := HB.out.get (show k < m by omega)
      have HYES : Hid (coverB ⟨k1, i1, n1⟩ ⟨k2, i2, n2⟩ = true → Hid (CovTo L M (k + 1))) := Lib.hid fun h => Lib.hid (HC.out.next hx hy h)
      have HNO : Hid (coverB ⟨k1, i1, n1⟩ ⟨k2, i2, n2⟩ = false → Hid (false = coversL L M)) := Lib.hid fun h => Lib.hid (coversL_no L M k _ _ hx hy h).symm
      obtain ⟨a0, a1, a2⟩ := (HA.out.same HON.out).at_ hx
      obtain ⟨b0, b1, b2⟩ := (HB.out.same HON.out).at_ hy
      have HOA : Hid (Only Nobody w wr) := HON
      dsimp only at a0 a1 a2 b0 b1 b2
      clear hx hy
      by_cases hk12 : k1 = k2
      case neg =>
        have hk := hk12
        have hkb : (k1 == k2) = false := by simp; exact hk12
        by_cases g3 : k1 = 3
        case neg =>
          have g3b : (k1 == 3) = false := by simp; exact g3
          have HX := HNO.out (by unfold coverB; simp [hk, g3])
          go_upto_region 6 with fail
          go_quiet (fail)
          go_wp2_with fail
          go_ret
          exact ⟨ret_bool HX.out, HOA.out.drewN _⟩
        subst g3
        by_cases g0 : i1 = 0
        case neg =>
          have g0b : (i1 == 0) = false := by simp; exact g0
          have HX := HNO.out (by unfold coverB; simp [hk, g0])
          go_upto_region 6 with fail
          go_quiet (fail)
          go_wp2_with fail
          go_ret
          exact ⟨ret_bool HX.out, HOA.out.drewN _⟩
        subst g0
        by_cases gz : n1.size = 0
        case neg =>
          have gz0 := ne_nil gz
          have gz1 := ne_nil' gz
          have gz2 := ne_nil2 gz
          have HX := HNO.out (by unfold coverB; simp [hk, gz])
          go_upto_region 6 with fail
          go_quiet (fail)
          go_wp2_with fail
          go_ret
          exact ⟨ret_bool HX.out, HOA.out.drewN _⟩
        obtain rfl := size_zero gz
        by_cases g2 : k2 = 2
        case pos =>
          subst g2
          have HX := HYES.out (by unfold coverB; first | (simp; done) | (simp; rfl) | rfl)
          go_upto_region 6 with fail
          go_quiet (fail)
          go_wp2_with fail
          have HOE := Lib.hid (HOA.out.drewN nq)
          go_roundw
          case rel => first | exact ⟨k + 1, by go_num, by omega, HX, HOE⟩ | ((repeat apply Exists.intro); exact ⟨⟨k + 1, by go_num, by omega, HX, HOE⟩, rfl⟩)
          case measure => simp [intOf]; omega
        have g2b : (k2 == 2) = false := by simp; exact g2
        have HX := HNO.out (by unfold coverB; simp [hk, g2])
        go_upto_region 6 with fail
        go_quiet (fail)
        go_wp2_with fail
        go_ret
        exact ⟨ret_bool HX.out, HOA.out.drewN _⟩
      subst hk12
      by_cases hi12 : i1 = i2
      case neg =>
        have hi := hi12
        have hib : (i1 == i2) = false := by simp; exact hi12
        by_cases g3 : k1 = 3
        case neg =>
          have g3b : (k1 == 3) = false := by simp; exact g3
          have HX := HNO.out (by unfold coverB; simp [hi, g3])
          go_upto_region 6 with fail
          go_quiet (fail)
          go_wp2_with fail
          go_ret
          exact ⟨ret_bool HX.out, HOA.out.drewN _⟩
        subst g3
        by_cases g0 : i1 = 0
        case neg =>
          have g0b : (i1 == 0) = false := by simp; exact g0
          have HX := HNO.out (by unfold coverB; simp [hi, g0])
          go_upto_region 6 with fail
          go_quiet (fail)
          go_wp2_with fail
          go_ret
          exact ⟨ret_bool HX.out, HOA.out.drewN _⟩
        subst g0
        by_cases gz : n1.size = 0
        case neg =>
          have gz0 := ne_nil gz
          have gz1 := ne_nil' gz
          have gz2 := ne_nil2 gz
          have HX := HNO.out (by unfold coverB; simp [hi, gz])
          go_upto_region 6 with fail
          go_quiet (fail)
          go_wp2_with fail
          go_ret
          exact ⟨ret_bool HX.out, HOA.out.drewN _⟩
        obtain rfl := size_zero gz
        have HX := HNO.out (by unfold coverB; simp [hi])
        go_upto_region 6 with fail
        go_quiet (fail)
        go_wp2_with fail
        go_ret
        exact ⟨ret_bool HX.out, HOA.out.drewN _⟩
      subst hi12
      by_cases hn12 : n1 = n2
      case neg =>
        have hn := hn12
        have hnb := toList_ne hn12
        have hnc : ¬ n1.toList = n2.toList := by simpa using hnb
        by_cases g3 : k1 = 3
        case neg =>
          have g3b : (k1 == 3) = false := by simp; exact g3
          have HX := HNO.out (by unfold coverB; simp [hn, g3])
          go_upto_region 6 with fail
          go_quiet (fail)
          go_wp2_with fail
          go_ret
          exact ⟨ret_bool HX.out, HOA.out.drewN _⟩
        subst g3
        by_cases g0 : i1 = 0
        case neg =>
          have g0b : (i1 == 0) = false := by simp; exact g0
          have HX := HNO.out (by unfold coverB; simp [hn, g0])
          go_upto_region 6 with fail
          go_quiet (fail)
          go_wp2_with fail
          go_ret
          exact ⟨ret_bool HX.out, HOA.out.drewN _⟩
        subst g0
        by_cases gz : n1.size = 0
        case neg =>
          have gz0 := ne_nil gz
          have gz1 := ne_nil' gz
          have gz2 := ne_nil2 gz
          have HX := HNO.out (by unfold coverB; simp [hn, gz])
          go_upto_region 6 with fail
          go_quiet (fail)
          go_wp2_with fail
          go_ret
          exact ⟨ret_bool HX.out, HOA.out.drewN _⟩
        obtain rfl := size_zero gz
        have hm0 := ne_nil (nil_ne hn)
        have hm1 := ne_nil' (nil_ne hn)
        have hm2 := ne_nil2 (nil_ne hn)
        have hm3 := nil_eq_ne (nil_ne hn)
        have HX := HNO.out (by unfold coverB; simp [hn])
        go_upto_region 6 with fail
        go_quiet (fail)
        go_wp2_with fail
        go_ret
        exact ⟨ret_bool HX.out, HOA.out.drewN _⟩
      subst hn12
      have HX := HYES.out (by unfold coverB; simp)
      go_upto_region 6 with fail
      go_quiet (fail)
      go_wp2_with fail
      have HOE := Lib.hid (HOA.out.drewN nq)
      go_roundw
      case rel => first | exact ⟨k + 1, by go_num, by omega, HX, HOE⟩ | ((repeat apply Exists.intro); exact ⟨⟨k + 1, by go_num, by omega, HX, HOE⟩, rfl⟩)
      case measure => simp [intOf]; omega
    · obtain rfl : k = n := by omega
      have HF := Lib.hid (HEND.out HC.out)
      go_wp2_with fail
      go_ret
      exact ⟨ret_bool HF.out, HON.out⟩
set_option maxRecDepth 100000 in
set_option maxHeartbeats 8000000 in
theorem covers_any (A B : Option Addr) (n c m d : Nat) (L M : List Pt) (w : World) (hn : n ≤ 1000) (ha : Pts w A n L) (hb : Pts w B m M) : Calls Tryd.prog 24 #[.slice A n c, .slice B m d] w fun e w' => e = .returned (.bool (coversL L M)) ∧ Only Nobody w w' := by
  have HA := Lib.hid ha
  have HB := Lib.hid hb
  by_cases hlen : m < n
  · have HF : Hid (false = coversL L M) := Lib.hid (coversL_len L M (by rw [ha.len, hb.len]; exact hlen)).symm
    have hI : (m : Int) < (n : Int) := by omega
    clear ha hb hlen
    go_enter Tryd.func24, Tryd.ntmps24
    go_wp2_with fail
    go_ret
    exact ⟨ret_bool HF.out, Only.refl _ _⟩
  have hI : ¬ (m : Int) < (n : Int) := by omega
  have HEND : Hid (CovTo L M n → true = coversL L M) := Lib.hid fun h => (coversL_yes L M (by rw [ha.len, hb.len]; omega) (by rw [ha.len]; exact h)).symm
  clear ha hb
  go_enter Tryd.func24, Tryd.ntmps24
  go_wp2_with fail
  go_loopw [14] (fun i wx => ∃ k : Nat, i = .int .i64 (k : Int) ∧ k ≤ n ∧ Hid (CovTo L M k) ∧ Hid (Only Nobody w wx)) (fun i _ => n - (intOf i).toNat)
  case atStart => exact ⟨0, rfl, Nat.zero_le _, Lib.hid (fun i _ _ h => absurd h (by omega)), Lib.hid (Only.refl _ _)⟩
  case round =>
    obtain ⟨k, rfl, hk, HC, HON⟩ := hrel
    by_cases hkm : k < n
    · have hkI : (k : Int) < (n : Int) := by omega
      have hkJ : (k : Int) < (m : Int) := by omega
      have hk0 : (0 : Int) ≤ (k : Int) := by omega
      obtain ⟨ad, rfl⟩ := HA.out.some_ (by omega)
      obtain ⟨bd, rfl⟩ := HB.out.some_ (by omega)
      obtain ⟨⟨k1, i1, n1⟩, hx⟩ := HA.out.get hkm
      obtain ⟨⟨k2, i2, n2⟩, hy⟩ := HB.out.get (show k < m by omega)
      have HYES : Hid (coverB ⟨k1, i1, n1⟩ ⟨k2, i2, n2⟩ = true → Hid (CovTo L M (k + 1))) := Lib.hid fun h => Lib.hid (HC.out.next hx hy h)
      have HNO : Hid (coverB ⟨k1, i1, n1⟩ ⟨k2, i2, n2⟩ = false → Hid (false = coversL L M)) := Lib.hid fun h => Lib.hid (coversL_no L M k _ _ hx hy h).symm
      obtain ⟨a0, a1, a2⟩ := (HA.out.same HON.out).at_ hx
      obtain ⟨b0, b1, b2⟩ := (HB.out.same HON.out).at_ hy
      have HQ : Hid (∀ w', Only Nobody wr w' → PtAt w' ad k ⟨k1, i1, n1⟩ ∧ PtAt w' bd k ⟨k2, i2, n2⟩) := Lib.hid fun w' ho => ⟨(HA.out.same (HON.out.trans ho)).at_ hx, (HB.out.same (HON.out.trans ho)).at_ hy⟩
      obtain ⟨⟨e0, e1, e2⟩, ⟨f0, f1, f2⟩⟩ := HQ.out (wr.alloc (.cells #[.int .i64 k1, .int .i64 i1, .string n1] 61)) ((Only.refl _ _).alloc _)
      have HBK : Hid (Blk (wr.alloc (.cells #[.int .i64 k1, .int .i64 i1, .string n1] 61)) wr.heap.size 61 #[.int .i64 k1, .int .i64 i1, .string n1]) := Lib.hid (Blk.new wr _ _)
      have g0 := HBK.out.cell 0
      have g1 := HBK.out.cell 1
      have g2 := HBK.out.cell 2
      have HOA : Hid (Only Nobody w (wr.alloc (.cells #[.int .i64 k1, .int .i64 i1, .string n1] 61))) := Lib.hid (HON.out.alloc _)
      dsimp only at a0 a1 a2 b0 b1 b2 e0 e1 e2 f0 f1 f2
      clear hx hy
      by_cases hk12 : k1 = k2
      case neg =>
        have hk := hk12
        have hkb : (k1 == k2) = false := by simp; exact hk12
        by_cases g3 : k1 = 3
        case neg =>
          have g3b : (k1 == 3) = false := by simp; exact g3
          have HX := HNO.out (by unfold coverB; simp [hk, g3])
          go_upto_region 6 with fail
          go_quiet (fail)
          go_wp2_with fail
          go_ret
          exact ⟨ret_bool HX.out, HOA.out.drewN _⟩
        subst g3
        by_cases g0 : i1 = 0
        case neg =>
          have g0b : (i1 == 0) = false := by simp; exact g0
          have HX := HNO.out (by unfold coverB; simp [hk, g0])
          go_upto_region 6 with fail
          go_quiet (fail)
          go_wp2_with fail
          go_ret
          exact ⟨ret_bool HX.out, HOA.out.drewN _⟩
        subst g0
        by_cases gz : n1.size = 0
        case neg =>
          have gz0 := ne_nil gz
          have gz1 := ne_nil' gz
          have gz2 := ne_nil2 gz
          have HX := HNO.out (by unfold coverB; simp [hk, gz])
          go_upto_region 6 with fail
          go_quiet (fail)
          go_wp2_with fail
          go_ret
          exact ⟨ret_bool HX.out, HOA.out.drewN _⟩
        obtain rfl := size_zero gz
        by_cases g2 : k2 = 2
        case pos =>
          subst g2
          have HX := HYES.out (by unfold coverB; first | (simp; done) | (simp; rfl) | rfl)
          go_upto_region 6 with fail
          go_quiet (fail)
          go_wp2_with fail
          have HOE := Lib.hid (HOA.out.drewN nq)
          go_roundw
          case rel => first | exact ⟨k + 1, by go_num, by omega, HX, HOE⟩ | ((repeat apply Exists.intro); exact ⟨⟨k + 1, by go_num, by omega, HX, HOE⟩, rfl⟩)
          case measure => simp [intOf]; omega
        have g2b : (k2 == 2) = false := by simp; exact g2
        have HX := HNO.out (by unfold coverB; simp [hk, g2])
        go_upto_region 6 with fail
        go_quiet (fail)
        go_wp2_with fail
        go_ret
        exact ⟨ret_bool HX.out, HOA.out.drewN _⟩
      subst hk12
      by_cases hi12 : i1 = i2
      case neg =>
        have hi := hi12
        have hib : (i1 == i2) = false := by simp; exact hi12
        by_cases g3 : k1 = 3
        case neg =>
          have g3b : (k1 == 3) = false := by simp; exact g3
          have HX := HNO.out (by unfold coverB; simp [hi, g3])
          go_upto_region 6 with fail
          go_quiet (fail)
          go_wp2_with fail
          go_ret
          exact ⟨ret_bool HX.out, HOA.out.drewN _⟩
        subst g3
        by_cases g0 : i1 = 0
        case neg =>
          have g0b : (i1 == 0) = false := by simp; exact g0
          have HX := HNO.out (by unfold coverB; simp [hi, g0])
          go_upto_region 6 with fail
          go_quiet (fail)
          go_wp2_with fail
          go_ret
          exact ⟨ret_bool HX.out, HOA.out.drewN _⟩
        subst g0
        by_cases gz : n1.size = 0
        case neg =>
          have gz0 := ne_nil gz
          have gz1 := ne_nil' gz
          have gz2 := ne_nil2 gz
          have HX := HNO.out (by unfold coverB; simp [hi, gz])
          go_upto_region 6 with fail
          go_quiet (fail)
          go_wp2_with fail
          go_ret
          exact ⟨ret_bool HX.out, HOA.out.drewN _⟩
        obtain rfl := size_zero gz
        have HX := HNO.out (by unfold coverB; simp [hi])
        go_upto_region 6 with fail
        go_quiet (fail)
        go_wp2_with fail
        go_ret
        exact ⟨ret_bool HX.out, HOA.out.drewN _⟩
      subst hi12
      by_cases hn12 : n1 = n2
      case neg =>
        have hn := hn12
        have hnb := toList_ne hn12
        have hnc : ¬ n1.toList = n2.toList := by simpa using hnb
        by_cases g3 : k1 = 3
        case neg =>
          have g3b : (k1 == 3) = false := by simp; exact g3
          have HX := HNO.out (by unfold coverB; simp [hn, g3])
          go_upto_region 6 with fail
          go_quiet (fail)
          go_wp2_with fail
          go_ret
          exact ⟨ret_bool HX.out, HOA.out.drewN _⟩
        subst g3
        by_cases g0 : i1 = 0
        case neg =>
          have g0b : (i1 == 0) = false := by simp; exact g0
          have HX := HNO.out (by unfold coverB; simp [hn, g0])
          go_upto_region 6 with fail
          go_quiet (fail)
          go_wp2_with fail
          go_ret
          exact ⟨ret_bool HX.out, HOA.out.drewN _⟩
        subst g0
        by_cases gz : n1.size = 0
        case neg =>
          have gz0 := ne_nil gz
          have gz1 := ne_nil' gz
          have gz2 := ne_nil2 gz
          have HX := HNO.out (by unfold coverB; simp [hn, gz])
          go_upto_region 6 with fail
          go_quiet (fail)
          go_wp2_with fail
          go_ret
          exact ⟨ret_bool HX.out, HOA.out.drewN _⟩
        obtain rfl := size_zero gz
        have hm0 := ne_nil (nil_ne hn)
        have hm1 := ne_nil' (nil_ne hn)
        have hm2 := ne_nil2 (nil_ne hn)
        have hm3 := nil_eq_ne (nil_ne hn)
        have HX := HNO.out (by unfold coverB; simp [hn])
        go_upto_region 6 with fail
        go_quiet (fail)
        go_wp2_with fail
        go_ret
        exact ⟨ret_bool HX.out, HOA.out.drewN _⟩
      subst hn12
      have HX := HYES.out (by unfold coverB; simp)
      go_upto_region 6 with fail
      go_quiet (fail)
      go_wp2_with fail
      have HOE := Lib.hid (HOA.out.drewN nq)
      go_roundw
      case rel => first | exact ⟨k + 1, by go_num, by omega, HX, HOE⟩ | ((repeat apply Exists.intro); exact ⟨⟨k + 1, by go_num, by omega, HX, HOE⟩, rfl⟩)
      case measure => simp [intOf]; omega
    · obtain rfl : k = n := by omega
      have HF := Lib.hid (HEND.out HC.out)
      go_wp2_with fail
      go_ret
      exact ⟨ret_bool HF.out, HON.out⟩
end Go.Proofs.YtdccckoelnnnoaaDoor
