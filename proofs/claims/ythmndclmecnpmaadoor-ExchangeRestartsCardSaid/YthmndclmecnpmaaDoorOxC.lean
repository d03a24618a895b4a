/- Exchange: contracts of passed and of the outbox's Due, Pending. -/
import Derived.Test.YthmndclmecnpmaaDoorOxB
import Derived.Deep.CutBlock
import Derived.Outline
namespace Go.Proofs.YthmndclmecnpmaaDoor
open Go.RowKit
attribute [local go_sem ↓] Go.wp_at_zero Go.wp_at_succ

def itsC (l : List It) : List Value := l.flatMap It.cells
theorem itsC_append (a b : List It) : itsC (a ++ b) = itsC a ++ itsC b := by simp [itsC]
theorem itsC_len : ∀ l : List It, (itsC l).length = l.length * 2
  | [] => rfl
  | y :: l => by
    have : itsC (y :: l) = y.cells ++ itsC l := rfl
    rw [this, List.length_append, itsC_len l, List.length_cons]
    show 2 + _ = _
    omega
theorem infoIt : (Tryd.prog.info? 36).map (fun i => (i.zero, i.size, i.bytes)) = some (some (.agg #[.int .i64 0, .string ByteArray.empty]), 2, 24) := by kernel_rfl

theorem RowAt.set_ {w : World} {base : Nat} {e : TypeId} {size n g o c : Nat} {xs : List Value} (h : RowAt w base e size (.slice (some ⟨g, o, none⟩) n c) n xs) (j : Nat) (_hj : j < n * size) (u : Value) :
    RowAt (w.setCell ⟨g, o + j, none⟩ u) base e size (.slice (some ⟨g, o, none⟩) n c) n (xs.set j u) := by
  refine ⟨by rw [List.length_set]; exact h.1, ?_⟩
  rcases h.2 with ⟨hv, _⟩ | ⟨g', o', cap, cur, hv, hb, hg, hnc, hcm, hs, ht⟩
  · cases hv
  · injection hv with h1 h2 h3
    injection h1 with h1
    injection h1 with h1 h4
    subst h1; subst h4; subst h3
    refine .inr ⟨g, o, c, cur.setIfInBounds (o + j) u, rfl, hb, Blk.set_ (t := e) hg (o + j) u, hnc, hcm, by simpa using hs, ?_⟩
    rw [Array.toList_setIfInBounds, ← ht]
    rw [List.drop_set, if_neg (by omega), show o + j - o = j by omega, List.take_set]

set_option maxRecDepth 100000 in
set_option maxHeartbeats 1000000 in
theorem passed_any (a n iv : Int) (hn : -1000000 ≤ n ∧ n ≤ 1000000) (hi : -1000000 ≤ iv ∧ iv ≤ 1000000) (w : World) : Calls Tryd.prog 49 #[.int .i64 a, .int .i64 n, .int .i64 iv] w fun e w' => e = .returned (.bool (decide (a ≤ n - iv))) ∧ w = w' := by
  obtain ⟨h1, h2⟩ := hn
  obtain ⟨h3, h4⟩ := hi
  by_cases hp : 0 < iv
  · have k1 : ¬ n < n - iv := by omega
    have k2 : ¬ iv < 0 := by omega
    go_enter Tryd.func49, Tryd.ntmps49
    go_wp2_with fail
    go_ret
    exact ⟨rfl, rfl⟩
  · by_cases hq : iv < 0
    · have k1 : ¬ n - iv < n := by omega
      go_enter Tryd.func49, Tryd.ntmps49
      go_wp2_with fail
      go_ret
      exact ⟨rfl, rfl⟩
    · go_enter Tryd.func49, Tryd.ntmps49
      go_wp2_with fail
      go_ret
      exact ⟨rfl, rfl⟩

/-- Whether an item has to be sent. -/
def dueB (now iv : Int) (y : Snd) : Bool := !(y.sent && decide (y.at_ ≤ now) && !decide (y.at_ ≤ now - iv))
def mark (now iv : Int) (y : Snd) : Snd := if dueB now iv y = true then ⟨y.x, true, now⟩ else y
def markTo (now iv : Int) (k : Nat) (l : List Snd) : List Snd := (l.take k).map (mark now iv) ++ l.drop k
def dueTo (now iv : Int) (k : Nat) (l : List Snd) : List It := ((l.take k).filter (dueB now iv)).map (·.x)
theorem markTo_len (now iv : Int) (k : Nat) (l : List Snd) : (markTo now iv k l).length = l.length := by
  unfold markTo
  rw [List.length_append, List.length_map, List.length_take, List.length_drop]
  omega
theorem markTo_get {now iv : Int} {k : Nat} {l : List Snd} {y : Snd} (h : l[k]? = some y) : (markTo now iv k l)[k]? = some y := by
  have hk : k < l.length := (List.getElem?_eq_some_iff.1 h).1
  unfold markTo
  rw [List.getElem?_append_right (by rw [List.length_map, List.length_take]; omega), List.length_map, List.length_take, List.getElem?_drop, show k + (k - min k l.length) = k by omega]
  exact h
theorem set_same {α : Type} : ∀ {l : List α} {k : Nat} {y : α}, l[k]? = some y → l.set k y = l
  | [], _, _, h => by simp at h
  | z :: l, 0, y, h => by simp at h; subst h; rfl
  | z :: l, k + 1, y, h => by rw [List.set_cons_succ, set_same (by simpa using h)]
theorem markTo_succ {now iv : Int} {k : Nat} {l : List Snd} {y : Snd} (h : l[k]? = some y) : markTo now iv (k + 1) l = (markTo now iv k l).set k (mark now iv y) := by
  have hk : k < l.length := (List.getElem?_eq_some_iff.1 h).1
  have hy : l[k] = y := by rw [List.getElem?_eq_getElem hk] at h; exact Option.some.inj h
  unfold markTo
  rw [List.take_succ_eq_append_getElem hk, hy, List.map_append, List.set_append_right _ _ (by rw [List.length_map, List.length_take]; omega), List.length_map, List.length_take, show k - min k l.length = 0 by omega, List.append_assoc]
  congr 1
  rw [List.drop_eq_getElem_cons hk, hy]
  rfl
theorem dueTo_succ {now iv : Int} {k : Nat} {l : List Snd} {y : Snd} (h : l[k]? = some y) : dueTo now iv (k + 1) l = dueTo now iv k l ++ (if dueB now iv y = true then [y.x] else []) := by
  have hk : k < l.length := (List.getElem?_eq_some_iff.1 h).1
  have hy : l[k] = y := by rw [List.getElem?_eq_getElem hk] at h; exact Option.some.inj h
  unfold dueTo
  rw [List.take_succ_eq_append_getElem hk, hy, List.filter_append, List.map_append]
  congr 1
  by_cases hd : dueB now iv y = true
  · simp [hd]
  · simp [hd]
theorem dueTo_le (now iv : Int) (k : Nat) (l : List Snd) : (dueTo now iv k l).length ≤ k := by
  unfold dueTo
  rw [List.length_map]
  have := List.length_filter_le (dueB now iv) (l.take k)
  rw [List.length_take] at this
  omega
theorem snds_set {l : List Snd} {k : Nat} {y y' : Snd} (h : l[k]? = some y) (hx : y'.x = y.x) : sndsC (l.set k y') = ((sndsC l).set (k * 4 + 2) (.bool y'.sent)).set (k * 4 + 3) (.int .i64 y'.at_) := by
  have hk : k < l.length := (List.getElem?_eq_some_iff.1 h).1
  apply List.ext_getElem?
  intro m
  by_cases hm : m < l.length * 4
  · have e : m = m / 4 * 4 + m % 4 := by omega
    have h1 : m / 4 < l.length := by omega
    have h2 : m % 4 < 4 := by omega
    by_cases hd : m / 4 = k
    · have hl : (l.set k y')[m / 4]? = some y' := by rw [hd, List.getElem?_set_self hk]
      have hc0 := sndsC_get l (m / 4) (m % 4) y (by rw [hd]; exact h) h2
      rw [e, sndsC_get _ _ _ y' hl h2]
      rcases (show m % 4 = 0 ∨ m % 4 = 1 ∨ m % 4 = 2 ∨ m % 4 = 3 by omega) with r | r | r | r <;> rw [r] at hc0 ⊢
      · rw [List.getElem?_set_ne (by omega), List.getElem?_set_ne (by omega), hc0]; simp [Snd.cells, hx]
      · rw [List.getElem?_set_ne (by omega), List.getElem?_set_ne (by omega), hc0]; simp [Snd.cells, hx]
      · rw [List.getElem?_set_ne (by omega), hd, List.getElem?_set_self (by rw [sndsC_len]; omega)]; rfl
      · rw [hd, List.getElem?_set_self (by rw [List.length_set, sndsC_len]; omega)]; rfl
    · rw [List.getElem?_set_ne (by omega), List.getElem?_set_ne (by omega)]
      have hl : (l.set k y')[m / 4]? = l[m / 4]? := List.getElem?_set_ne (Ne.symm hd)
      have hz : l[m / 4]? = some l[m / 4] := List.getElem?_eq_getElem h1
      rw [e, sndsC_get _ _ _ _ (hl.trans hz) h2, sndsC_get _ _ _ _ hz h2]
  · rw [List.getElem?_eq_none (by rw [sndsC_len, List.length_set]; omega), List.getElem?_eq_none (by rw [List.length_set, List.length_set, sndsC_len]; omega)]

theorem mark_set {w : World} {O k g o N c : Nat} {a : Nat} {L : List Snd} {y y' : Snd} (h : OutAt w O ⟨a, L⟩ (.slice (some ⟨g, o, none⟩) N c)) (hN : L.length = N) (hy : L[k]? = some y) (hx : y'.x = y.x) :
    OutAt ((w.setCell ⟨g, o + k * 4 + 2, none⟩ (.bool y'.sent)).setCell ⟨g, o + k * 4 + 3, none⟩ (.int .i64 y'.at_)) O ⟨a, L.set k y'⟩ (.slice (some ⟨g, o, none⟩) N c) := by
  have hk : k < L.length := (List.getElem?_eq_some_iff.1 hy).1
  have hne : g ≠ O := fun e => h.ne_ (by rw [← e]; rfl)
  have hr := h.row
  rw [show (⟨a, L⟩ : OutS).l = L from rfl, hN] at hr
  refine ⟨Only.blk (F := (· = g)) (((Only.refl (· = g) w).setCell (p := ⟨g, o + k * 4 + 2, none⟩) (.inl rfl) _).setCell (p := ⟨g, o + k * 4 + 3, none⟩) (.inl rfl) _) h.blk (fun e => hne e.symm), ?_⟩
  show RowAt _ _ _ _ _ (L.set k y').length (sndsC (L.set k y'))
  rw [List.length_set, hN, snds_set hy hx]
  exact (hr.set_ (k * 4 + 2) (by omega) (.bool y'.sent)).set_ (k * 4 + 3) (by omega) (.int .i64 y'.at_)
theorem dueB_eq (now iv : Int) (x : It) (s : Bool) (a : Int) : dueB now iv ⟨x, s, a⟩ = !(s && decide (a ≤ now) && !decide (a ≤ now - iv)) := rfl
theorem own_form {w : World} {base : Nat} {e : TypeId} {size n : Nat} {v : Value} {xs : List Value} (h : w.ownsRow base e size v n xs) : ∃ A c, v = .slice A n c := by
  rcases h.2 with ⟨rfl, h0⟩ | ⟨g, cap, cur, rfl, _⟩
  · exact ⟨none, 0, by rw [h0]⟩
  · exact ⟨_, _, rfl⟩
def DuePost (O : Nat) (S : OutS) (v : Value) (now iv : Int) (w : World) (e : Ending) (w' : World) : Prop :=
  ∃ vo, e = .returned vo ∧ w'.ownsRow w.heap.size 36 2 vo (dueTo now iv (min S.l.length 64) S.l).length (itsC (dueTo now iv (min S.l.length 64) S.l)) ∧ OutAt w' O { S with l := markTo now iv (min S.l.length 64) S.l } v ∧ Only (OwnO O v) w w'

set_option maxRecDepth 100000 in
set_option maxHeartbeats 4000000 in
theorem due_ox (O : Nat) (S : OutS) (v : Value) (now iv : Int) (hn : -1000000 ≤ now ∧ now ≤ 1000000) (hi : -1000000 ≤ iv ∧ iv ≤ 1000000) (w : World) (h : OutAt w O S v) (hl : S.l.length ≤ 5000) : Calls Tryd.prog 25 #[.pointer (some ⟨O, 0, none⟩), .int .i64 now, .int .i64 iv] w (DuePost O S v now iv w) := by
  have HO := Lib.hid h
  obtain ⟨N, HNN⟩ : ∃ N, Hid (S.l.length = N) := ⟨_, Lib.hid rfl⟩
  obtain ⟨A, c, rfl, hnc, hcm⟩ := h.row.form
  have k1 : w.cell? ⟨O, 1, none⟩ = some (.slice A N c) := by rw [← HNN.out]; exact h.blk.cell 1
  rw [HNN.out] at hl hnc
  obtain ⟨M, HM⟩ : ∃ M, Hid (min N 64 = M) := ⟨_, Lib.hid rfl⟩
  have hM64 : M ≤ 64 := by rw [← HM.out]; omega
  have hMN : M ≤ N := by rw [← HM.out]; omega
  have HMI : Hid (min (N : Int) 64 = (M : Int)) := Lib.hid (by rw [← HM.out]; omega)
  have hNI : (N : Int) ≤ (c : Int) := by omega
  have hMI : (M : Int) ≤ (c : Int) := by omega
  have hMI2 : (M : Int) ≤ (N : Int) := by omega
  have hM0 : (0 : Int) ≤ (M : Int) := by omega
  clear h
  go_enter Tryd.func25, Tryd.ntmps25
  go_upto_region 4 with fail
  go_cut [23, 24] (fun a b wx => a = .int .i64 (M : Int) ∧ b = .int .i64 0 ∧ Only Nobody w wx)
  case first =>
    by_cases hN : N ≤ 64
    · have hM : M = N := by rw [← HM.out]; omega
      subst hM
      have hmi : ((M : Int) ≤ 64) = True := by simp only [eq_iff_iff, iff_true]; omega
      have hmi2 : ¬ (64 : Int) < (M : Int) := by omega
      have hmi3 : (M : Int) ≤ 64 := by omega
      have hmi4 : decide ((64 : Int) < (M : Int)) = false := by simp; omega
      go_region_held3 (fun w' => w'.cell? ⟨O, 1, none⟩ = some (.slice A M c)) (exact k1) (fail)
      all_goals
        go_wp2_with fail
        go_meet
        exact ⟨rfl, rfl, by repeat (first | exact Only.refl _ _ | refine Only.drew ?_ | refine Only.alloc ?_ _)⟩
    · have hM : M = 64 := by rw [← HM.out]; omega
      subst hM
      have hmi : ((N : Int) ≤ 64) = False := by simp only [eq_iff_iff, iff_false]; omega
      have hmi2 : (64 : Int) < (N : Int) := by omega
      have hmi3 : (64 : Int) ≤ (c : Int) := by omega
      have hmi4 : decide ((64 : Int) < (N : Int)) = true := by simp; omega
      have hmi5 : 64 ≤ c := by omega
      go_region_held3 (fun w' => w'.cell? ⟨O, 1, none⟩ = some (.slice A N c)) (exact k1) (fail)
      all_goals
        go_wp2_with fail
        go_meet
        exact ⟨rfl, rfl, by repeat (first | exact Only.refl _ _ | refine Only.drew ?_ | refine Only.alloc ?_ _)⟩
  case rest =>
    obtain ⟨rfl, rfl, hoc⟩ := hcut
    have HOC := Lib.hid hoc
    clear hoc k1
    go_wp2_with fail
    go_loopw [7, 24] (fun ov i wx => ∃ k : Nat, i = .int .i64 (k : Int) ∧ k ≤ M ∧ Hid (wx.ownsRow w.heap.size 36 2 ov (dueTo now iv k S.l).length (itsC (dueTo now iv k S.l))) ∧ Hid (OutAt wx O { S with l := markTo now iv k S.l } (.slice A N c)) ∧ Hid (Only (OwnO O (.slice A N c)) w wx)) (fun _ i _ => M - (intOf i).toNat)
    case atStart =>
      have e1 : markTo now iv 0 S.l = S.l := by simp [markTo]
      refine ⟨0, rfl, Nat.zero_le _, Lib.hid ⟨rfl, .inl ⟨rfl, rfl⟩⟩, Lib.hid ?_, Lib.hid (HOC.out.mono (fun _ x => x.elim))⟩
      rw [e1]
      have := HO.out.same HOC.out
      rw [HNN.out] at this
      exact this
    case round =>
      obtain ⟨k, rfl, hk, HOWN, HOX, HON⟩ := hrel
      by_cases hkm : k < M
      · have hkI : (k : Int) < (M : Int) := by omega
        have hkN : (k : Int) < (N : Int) := by omega
        have hk0 : (0 : Int) ≤ (k : Int) := by omega
        obtain ⟨y, hy⟩ : ∃ y, S.l[k]? = some y := ⟨_, List.getElem?_eq_getElem (by rw [HNN.out]; omega)⟩
        have HY := Lib.hid hy
        have hcl := HOX.out.row
        have hlen : (markTo now iv k S.l).length = N := by rw [markTo_len, HNN.out]
        rw [show ({ S with l := markTo now iv k S.l } : OutS).l = markTo now iv k S.l from rfl, hlen] at hcl
        obtain ⟨g, o, c', hv, _, hgl, _, hcc, hfc⟩ := hcl.cell (by omega)
        injection hv with hv1 hv2 hv3
        subst hv1; subst hv3
        have HCL := Lib.hid hcl
        have hget := markTo_get (now := now) (iv := iv) hy
        have c0 : wr.cell? ⟨g, o + k * 4, none⟩ = some (.int .i64 y.x.n) := by
          have := hcc (k * 4) _ (by have := sndsC_get _ k 0 y hget (by omega); rw [Nat.add_zero] at this; rw [this]; rfl)
          exact this
        have c1 : wr.cell? ⟨g, o + k * 4 + 1, none⟩ = some (.string y.x.t) := hcc (k * 4 + 1) _ (by rw [sndsC_get _ k 1 y hget (by omega)]; rfl)
        have c2 : wr.cell? ⟨g, o + k * 4 + 2, none⟩ = some (.bool y.sent) := hcc (k * 4 + 2) _ (by rw [sndsC_get _ k 2 y hget (by omega)]; rfl)
        have c3 : wr.cell? ⟨g, o + k * 4 + 3, none⟩ = some (.int .i64 y.at_) := hcc (k * 4 + 3) _ (by rw [sndsC_get _ k 3 y hget (by omega)]; rfl)
        have f2 : wr.frozen? ⟨g, o + k * 4 + 2, none⟩ = false := hfc (k * 4 + 2)
        have f3 : wr.frozen? ⟨g, o + k * 4 + 3, none⟩ = false := hfc (k * 4 + 3)
        have k1 : wr.cell? ⟨O, 1, none⟩ = some (.slice (some ⟨g, o, none⟩) N c) := HOX.out.blk.cell 1
        clear hfc hcl hy hget
        obtain ⟨yx, ys, ya⟩ := y
        have HPC := Lib.hid (passed_any ya now iv hn hi)
        go_upto_region 8 with fail
        go_cut [24, 54] from 24 to 69 (fun i b wx => i = .int .i64 (k : Int) ∧ b = .bool (!(dueB now iv ⟨yx, ys, ya⟩)) ∧ wx = wr)
        case first =>
          cases ys
          · go_wp2_with fail
            go_meet
            exact ⟨rfl, by rw [dueB_eq]; rfl, rfl⟩
          · by_cases hb : ya ≤ now
            · have hbd : decide (ya ≤ now) = true := by simpa using hb
              obtain ⟨b, HB⟩ : ∃ b, Hid (decide (ya ≤ now - iv) = b) := ⟨_, Lib.hid rfl⟩
              rw [HB.out] at HPC
              cases b
              · go_wp2_with fail
                refine (HPC.out _).mono ?_
                rintro e w' ⟨rfl, rfl⟩
                go_wp2_with fail
                go_meet
                exact ⟨rfl, by rw [dueB_eq, HB.out, hbd]; rfl, rfl⟩
              · go_wp2_with fail
                refine (HPC.out _).mono ?_
                rintro e w' ⟨rfl, rfl⟩
                go_wp2_with fail
                go_meet
                exact ⟨rfl, by rw [dueB_eq, HB.out, hbd]; rfl, rfl⟩
            · have hbd : decide (ya ≤ now) = false := by simpa using hb
              go_wp2_with fail
              go_meet
              exact ⟨rfl, by rw [dueB_eq, hbd]; rfl, rfl⟩
        case rest =>
          obtain ⟨rfl, rfl, hwc⟩ := hcut
          have hwc := hwc.symm
          subst hwc
          by_cases hd : dueB now iv ⟨yx, ys, ya⟩ = true
          · have HD := Lib.hid hd
            have hn1 : (!dueB now iv ⟨yx, ys, ya⟩) = false := by rw [hd]; rfl
            rw [hn1]
            clear hd hn1
            have hmk : mark now iv ⟨yx, ys, ya⟩ = ⟨yx, true, now⟩ := by unfold mark; rw [if_pos HD.out]
            have hset := mark_set (y' := ⟨yx, true, now⟩) HOX.out hlen (markTo_get HY.out) rfl
            rw [← hmk, ← markTo_succ HY.out, hmk] at hset
            have hde : dueTo now iv (k + 1) S.l = dueTo now iv k S.l ++ [yx] := by rw [dueTo_succ HY.out, if_pos HD.out]
            have hgn : ∀ g', u7.ownBlock = some g' → g' ≠ g := fun g' e => by
              have h1 := (HOWN.out.lt g' e).1
              have h2 := (HO.out.row.lt g rfl).2
              omega
            obtain ⟨A7, c7, rfl⟩ := own_form HOWN.out
            have HOX2 := Lib.hid hset
            have HDE := Lib.hid hde
            have HGN := Lib.hid hgn
            have ho2 : Only (· = g) wr ((wr.setCell ⟨g, o + k * 4 + 2, none⟩ (.bool true)).setCell ⟨g, o + k * 4 + 3, none⟩ (.int .i64 now)) := ((Only.refl (· = g) wr).setCell (p := ⟨g, o + k * 4 + 2, none⟩) (.inl rfl) _).setCell (p := ⟨g, o + k * 4 + 3, none⟩) (.inl rfl) _
            have HO2 := Lib.hid ho2
            clear hset hde hmk hgn ho2
            go_upto_region 10 with fail
            obtain ⟨W, HW⟩ : ∃ W : World, Hid (W = (wr.setCell ⟨g, o + k * 4 + 2, none⟩ (.bool true)).setCell ⟨g, o + k * 4 + 3, none⟩ (.int .i64 now)) := ⟨_, Lib.hid rfl⟩
            rw [← HW.out] at HOX2 HO2 ⊢
            have HOWN2 : Hid (W.ownsRow w.heap.size 36 2 (.slice A7 (dueTo now iv k S.l).length c7) (dueTo now iv k S.l).length (itsC (dueTo now iv k S.l))) := Lib.hid (HO2.out.row HOWN.out (fun g' e x => HGN.out g' e x))
            have hlen2 : (markTo now iv (k + 1) S.l).length = N := by rw [markTo_len, HNN.out]
            have hr2 := HOX2.out.row
            rw [show ({ S with l := markTo now iv (k + 1) S.l } : OutS).l = markTo now iv (k + 1) S.l from rfl, hlen2] at hr2
            obtain ⟨g2, o2, c2', hv2, _, _, _, hcc2, _⟩ := hr2.cell (by omega)
            injection hv2 with hv1 hv2 hv3
            injection hv1 with hv1
            injection hv1 with hv1 hv4
            subst hv1; subst hv4
            obtain ⟨y2, hg2, hmx⟩ : ∃ y2, (markTo now iv (k + 1) S.l)[k]? = some y2 ∧ y2.x = yx := ⟨mark now iv ⟨yx, ys, ya⟩, by
              rw [markTo_succ HY.out, List.getElem?_set_self (by rw [hlen]; omega)], by unfold mark; split <;> rfl⟩
            have d0 : W.cell? ⟨g, o + k * 4, none⟩ = some (.int .i64 yx.n) := hcc2 (k * 4) _ ((sndsC_get _ k 0 y2 hg2 (by omega)).trans (by rw [← hmx]; rfl))
            have d1 : W.cell? ⟨g, o + k * 4 + 1, none⟩ = some (.string yx.t) := hcc2 (k * 4 + 1) _ ((sndsC_get _ k 1 y2 hg2 (by omega)).trans (by rw [← hmx]; rfl))
            obtain ⟨i0, hi0, hz0, hz1, hz2⟩ := info_parts infoIt
            have HR : Hid (Reads (W.alloc (.cells #[.int .i64 yx.n, .string yx.t] 36)) (W.heap.size + 1) 2 (some ⟨W.heap.size, 0, none⟩) 1 yx.cells) := Lib.hid (reads_alloc W 36 #[.int .i64 yx.n, .string yx.t] 2 1 rfl)
            have HBB : Hid (w.heap.size ≤ (W.alloc (.cells #[.int .i64 yx.n, .string yx.t] 36)).heap.size) := Lib.hid (by have h1 := HON.out.size; have h2 := HO2.out.size; simp; omega)
            have HBY : Hid ((dueTo now iv k S.l).length + 1 ≤ maxLen ∧ ((dueTo now iv k S.l).length + 1) * 24 ≤ 140737488355328) := Lib.hid (by have := dueTo_le now iv k S.l; unfold maxLen; omega)
            have HU : Hid (∀ u ∈ yx.cells, u.oneCell' = true) := Lib.hid (by intro u hu; simp only [It.cells, List.mem_cons, List.not_mem_nil, or_false] at hu; rcases hu with rfl | rfl <;> rfl)
            clear c0 c1 c2 c3 f2 f3 k1 hr2 hv2 hv3 hcc2 hg2 hmx hlen hlen2
            go_wp2_with (at_builtin; refine wpList_append_any _ rfl (.tmp 62) (.tmp 67) _ rfl w.heap.size 36 i0 _ 2 24 Tryd.underlying29 hi0 hz0 hz1 hz2 rfl (by omega) (.slice A7 (dueTo now iv k S.l).length c7) (dueTo now iv k S.l).length (itsC (dueTo now iv k S.l)) rfl (HOWN2.out.alloc _) _ (some ⟨W.heap.size, 0, none⟩) 1 1 yx.cells rfl HR.out HU.out HBY.out.1 HBY.out.2 HBB.out ?_
                         intro v2 w3 hown2 hgr2 hat2
                         have HO3 := Lib.hid hown2
                         have HG3 := Lib.hid hgr2
                         clear hown2 hgr2 hat2)
            go_roundw
            case rel =>
              have HOW3 : Hid (Only Nobody W (W.alloc (.cells #[.int .i64 yx.n, .string yx.t] 36))) := Lib.hid ((Only.refl _ _).alloc _)
              have HG4 : Hid (Only (fun x => w.heap.size ≤ x) W w3) := Lib.hid ((HOW3.out.mono (fun _ x => x.elim)).trans (Only.of_grown HG3.out (fun g' e => (HOWN2.out.lt g' e).1)))
              have HOWN3 : Hid (w3.ownsRow w.heap.size 36 2 v2 (dueTo now iv (k + 1) S.l).length (itsC (dueTo now iv (k + 1) S.l))) := Lib.hid (by
                rw [HDE.out, itsC_append, List.length_append, List.length_singleton, show itsC [yx] = yx.cells by simp [itsC]]
                exact HO3.out)
              have HOX3 : Hid (OutAt w3 O { S with l := markTo now iv (k + 1) S.l } (.slice (some ⟨g, o, none⟩) N c)) := Lib.hid (HOX2.out.keep HG4.out (fun k' h1 h2 => by
                have h3 := HO.out.lt k' h1
                omega))
              have HON3 : Hid (Only (OwnO O (.slice (some ⟨g, o, none⟩) N c)) w w3) := Lib.hid ((HON.out.trans (HO2.out.mono (fun x e => .inr (by rw [e]; rfl)))).trans_more (HG4.out.mono (fun x hx => .inr hx)))
              first
              | exact ⟨k + 1, by go_num, by omega, HOWN3, HOX3, HON3⟩
              | ((repeat apply Exists.intro); exact ⟨⟨k + 1, by go_num, by omega, HOWN3, HOX3, HON3⟩, rfl⟩)
            case measure => simp [intOf]; omega
          · have HD := Lib.hid hd
            have hn1 : (!dueB now iv ⟨yx, ys, ya⟩) = true := by rw [Bool.not_eq_true] at hd; rw [hd]; rfl
            rw [hn1]
            clear hd hn1
            go_wp2_with fail
            go_roundw
            case rel =>
              have hmk : mark now iv ⟨yx, ys, ya⟩ = ⟨yx, ys, ya⟩ := by unfold mark; rw [if_neg HD.out]
              have hde : dueTo now iv (k + 1) S.l = dueTo now iv k S.l := by rw [dueTo_succ HY.out, if_neg HD.out, List.append_nil]
              have hme : markTo now iv (k + 1) S.l = markTo now iv k S.l := by
                rw [markTo_succ HY.out, hmk]
                exact set_same (markTo_get HY.out)
              have HOWN3 : Hid (wr.ownsRow w.heap.size 36 2 u7 (dueTo now iv (k + 1) S.l).length (itsC (dueTo now iv (k + 1) S.l))) := by rw [hde]; exact HOWN
              have HOX3 : Hid (OutAt wr O { S with l := markTo now iv (k + 1) S.l } (.slice (some ⟨g, o, none⟩) N c)) := by rw [hme]; exact HOX
              first
              | exact ⟨k + 1, by go_num, by omega, HOWN3, HOX3, HON⟩
              | ((repeat apply Exists.intro); exact ⟨⟨k + 1, by go_num, by omega, HOWN3, HOX3, HON⟩, rfl⟩)
            case measure => simp [intOf]; omega
      · obtain rfl : k = M := by omega
        go_wp2_with fail
        go_ret
        refine ⟨u7, rfl, ?_, ?_, ?_⟩
        · rw [HNN.out, HM.out]; exact HOWN.out
        · rw [HNN.out, HM.out]; exact HOX.out
        · rw [HNN.out]; exact HON.out

/-! Pending. -/
def PendPost (S : OutS) (w : World) (e : Ending) (w' : World) : Prop :=
  ∃ vo, e = .returned vo ∧ w'.ownsRow w.heap.size 36 2 vo S.l.length (itsC (S.l.map (·.x))) ∧ Only Nobody w w'
set_option maxRecDepth 100000 in
set_option maxHeartbeats 4000000 in
theorem pending_ox (O : Nat) (S : OutS) (v : Value) (w : World) (h : OutAt w O S v) (hl : S.l.length ≤ 5000) : Calls Tryd.prog 34 #[.pointer (some ⟨O, 0, none⟩)] w (PendPost S w) := by
  have HO := Lib.hid h
  obtain ⟨N, HNN⟩ : ∃ N, Hid (S.l.length = N) := ⟨_, Lib.hid rfl⟩
  obtain ⟨A, c, rfl, hnc, hcm⟩ := h.row.form
  have k1 : w.cell? ⟨O, 1, none⟩ = some (.slice A N c) := by rw [← HNN.out]; exact h.blk.cell 1
  rw [HNN.out] at hl hnc
  clear h
  go_enter Tryd.func34, Tryd.ntmps34
  go_wp2_with fail
  go_loopw [3, 13] (fun ov i wx => ∃ k : Nat, i = .int .i64 (k : Int) ∧ k ≤ N ∧ Hid (wx.ownsRow w.heap.size 36 2 ov k (itsC ((S.l.take k).map (·.x)))) ∧ Hid (Only Nobody w wx)) (fun _ i _ => N - (intOf i).toNat)
  case atStart => exact ⟨0, rfl, Nat.zero_le _, Lib.hid ⟨rfl, .inl ⟨rfl, rfl⟩⟩, Lib.hid (by repeat (first | exact Only.refl _ _ | refine Only.drew ?_ | refine Only.alloc ?_ _))⟩
  case round =>
    obtain ⟨k, rfl, hk, HOWN, HON⟩ := hrel
    by_cases hkm : k < N
    · have hkI : (k : Int) < (N : Int) := by omega
      have hk0 : (0 : Int) ≤ (k : Int) := by omega
      obtain ⟨y, hy⟩ : ∃ y, S.l[k]? = some y := ⟨_, List.getElem?_eq_getElem (by rw [HNN.out]; omega)⟩
      have HY := Lib.hid hy
      have hcl := (HO.out.same HON.out).row
      rw [HNN.out] at hcl
      obtain ⟨g, o, c', hv, _, hgl, _, hcc, hfc⟩ := hcl.cell (by omega)
      injection hv with hv1 hv2 hv3
      subst hv1; subst hv3
      have HHC : Hid (∀ w', Only Nobody wr w' → w'.cell? ⟨g, o + k * 4, none⟩ = some (.int .i64 y.x.n) ∧ w'.cell? ⟨g, o + k * 4 + 1, none⟩ = some (.string y.x.t) ∧ w'.cell? ⟨g, o + k * 4 + 2, none⟩ = some (.bool y.sent) ∧ w'.cell? ⟨g, o + k * 4 + 3, none⟩ = some (.int .i64 y.at_)) := Lib.hid fun w' ho => by
        refine ⟨(ho.cell (p := ⟨g, _, none⟩) hgl (fun x => x)).trans (hcc (k * 4) _ ((sndsC_get _ k 0 y hy (by omega)).trans rfl)), (ho.cell (p := ⟨g, _, none⟩) hgl (fun x => x)).trans (hcc (k * 4 + 1) _ ((sndsC_get _ k 1 y hy (by omega)).trans rfl)), (ho.cell (p := ⟨g, _, none⟩) hgl (fun x => x)).trans (hcc (k * 4 + 2) _ ((sndsC_get _ k 2 y hy (by omega)).trans rfl)), (ho.cell (p := ⟨g, _, none⟩) hgl (fun x => x)).trans (hcc (k * 4 + 3) _ ((sndsC_get _ k 3 y hy (by omega)).trans rfl))⟩
      obtain ⟨c0, c1, c2, c3⟩ := HHC.out wr (Only.refl _ _)
      obtain ⟨A7, c7, rfl⟩ := own_form HOWN.out
      obtain ⟨i0, hi0, hz0, hz1, hz2⟩ := info_parts infoIt
      clear hcc hfc hcl hy
      have HR : Hid (∀ o : Obj, Reads ((wr.alloc o).alloc (.cells #[.int .i64 y.x.n, .string y.x.t] 36)) (wr.heap.size + 1 + 1) 2 (some ⟨wr.heap.size + 1, 0, none⟩) 1 y.x.cells) := Lib.hid (by
        intro o
        have := reads_alloc (wr.alloc o) 36 #[.int .i64 y.x.n, .string y.x.t] 2 1 rfl
        simp only [World.size_alloc] at this
        exact this)
      have HBB : Hid (w.heap.size ≤ wr.heap.size) := Lib.hid HON.out.size
      have HBY : Hid (k + 1 ≤ maxLen ∧ (k + 1) * 24 ≤ 140737488355328) := Lib.hid (by unfold maxLen; omega)
      have HU : Hid (∀ u ∈ y.x.cells, u.oneCell' = true) := Lib.hid (by intro u hu; simp only [It.cells, List.mem_cons, List.not_mem_nil, or_false] at hu; rcases hu with rfl | rfl <;> rfl)
      have HBB2 : Hid (∀ o o' : Obj, w.heap.size ≤ ((wr.alloc o).alloc o').heap.size) := Lib.hid (fun o o' => by have := HBB.out; simp; omega)
      go_wp2_with (at_builtin; refine wpList_append_any _ rfl (.tmp 17) (.tmp 20) _ rfl w.heap.size 36 i0 _ 2 24 Tryd.underlying29 hi0 hz0 hz1 hz2 rfl (by omega) (.slice A7 k c7) k (itsC ((S.l.take k).map (·.x))) rfl ((HOWN.out.alloc _).alloc _) _ (some ⟨wr.heap.size + 1, 0, none⟩) 1 1 y.x.cells rfl (HR.out _) HU.out HBY.out.1 HBY.out.2 (HBB2.out _ _) ?_
                   intro v2 w3 hown2 hgr2 hat2
                   have HO3 := Lib.hid hown2
                   have HG3 := Lib.hid hgr2
                   clear hown2 hgr2 hat2)
      go_roundw
      case rel =>
        have HOWN3 : Hid (w3.ownsRow w.heap.size 36 2 v2 (k + 1) (itsC ((S.l.take (k + 1)).map (·.x)))) := Lib.hid (by
          have hy := HY.out
          have hk : k < S.l.length := (List.getElem?_eq_some_iff.1 hy).1
          have hyy : S.l[k] = y := by rw [List.getElem?_eq_getElem hk] at hy; exact Option.some.inj hy
          rw [List.take_succ_eq_append_getElem hk, hyy, List.map_append, itsC_append, show itsC ([y].map (·.x)) = y.x.cells by simp [itsC]]
          exact HO3.out)
        have HON3 : Hid (Only Nobody w w3) := Lib.hid (HON.out.trans_more ((((Only.refl (fun x => w.heap.size ≤ x) wr).alloc _).alloc _).trans (Only.of_grown HG3.out (fun g' e => (HOWN.out.lt g' e).1)) |>.mono (fun x hx => .inr hx)))
        first
        | exact ⟨k + 1, by go_num, by omega, HOWN3, HON3⟩
        | ((repeat apply Exists.intro); exact ⟨⟨k + 1, by go_num, by omega, HOWN3, HON3⟩, rfl⟩)
      case measure => simp [intOf]; omega
    · obtain rfl : k = N := by omega
      go_wp2_with fail
      go_ret
      refine ⟨u3, rfl, ?_, HON.out⟩
      rw [HNN.out]
      have := HOWN.out
      rw [List.take_of_length_le (by rw [HNN.out]; omega)] at this
      exact this
end Go.Proofs.YthmndclmecnpmaaDoor
