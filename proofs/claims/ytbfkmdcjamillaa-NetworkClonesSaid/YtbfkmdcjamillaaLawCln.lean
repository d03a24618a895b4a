/- The walk of the law NetworkClones. -/
import Derived.Test.YtbfkmdcjamillaaClnB
import Derived.Test.YtbfkmdcjamillaaPlcP
namespace Go.Proofs.Ytbfkmdcjamillaa
open Go.RowKit Go.Maps
attribute [local go_sem ↓] Go.wp_at_zero Go.wp_at_succ

theorem perm_of_same : ∀ (K l : List ByteArray), K.Nodup → l.Nodup → (∀ s, s ∈ l ↔ s ∈ K) → K.Perm l
  | [], l, _, _, h => by
    cases l with
    | nil => exact .refl _
    | cons a l => exact absurd ((h a).1 (by simp)) (by simp)
  | a :: K, l, hK, hl, h => by
    obtain ⟨h1, h2⟩ := List.nodup_cons.1 hK
    have ha : a ∈ l := (h a).2 (by simp)
    refine (List.Perm.cons a (perm_of_same K (l.erase a) h2 (hl.erase a) (fun s => ?_))).trans (List.perm_cons_erase ha).symm
    rw [hl.mem_erase_iff, h s]
    constructor
    · rintro ⟨e, hs⟩
      rcases List.mem_cons.1 hs with hs | hs
      · exact absurd hs e
      · exact hs
    · intro hs
      exact ⟨fun e => h1 (by rw [← e]; exact hs), by simp [hs]⟩
theorem good_part {S : NetS} {P : List Pc} {q : Nat} (h : Good S P q) {K : List ByteArray} (hK : ∀ s, s ∈ S.keys ↔ s ∈ K) (hn : K.Nodup) : Good (S.part K) P q := by
  have hp := perm_of_same K S.keys hn h.rel.nodup hK
  have hqs : (S.part K).qs = S.qs := by
    funext s
    unfold NetS.part
    by_cases e : s ∈ K
    · simp [e]
    · simp only [if_neg e]
      exact (h.rel.rest s (fun x => e ((hK s).1 x))).symm
  refine ⟨⟨?_, ?_, ?_, hn, ?_, h.rel.ord, h.rel.old⟩, h.scr, h.cop, h.now, h.sent, h.lost, ?_, h.ncut⟩
  · rw [hqs]; exact h.rel.heap
  · rw [hqs]; exact h.rel.perm
  · intro s hs
    unfold NetS.part
    simp only []
    exact if_neg hs
  · rw [← h.rel.pend]
    unfold NetS.pend
    rw [hqs]
    exact (hp.map _).sum_nat
  · show K.length ≤ S.sent
    rw [hp.length_eq]
    exact h.keys
/-- A state that some list of copies goes with. -/
def GoodE (C : NetS) (q : Nat) : Prop := ∃ P, Good C P q ∧ P.length ≤ 2 * q
theorem GoodE.small {C : NetS} {q : Nat} (h : GoodE C q) (hq : q ≤ 1000) : Small C := by
  obtain ⟨P, h, _⟩ := h
  exact h.small (by omega)
theorem goodE_perf {C : NetS} {q : Nat} (h : GoodE C q) (hq : q ≤ 1000) (kd : Nat) (o : Op4) : GoodE (perfS C kd o).2 (q + 1) := by
  obtain ⟨P, h, hl⟩ := h
  unfold perfS
  split
  · exact ⟨P, good_step h, by omega⟩
  · split
    · exact ⟨_, (good_left h _).mono (Nat.le_succ q), by unfold leftP; have := List.length_filter_le (fun p => !(decide (p.to_ = placeS o.to_.toNat) && decide (p.at_ ≤ (C.now : Int)))) P; omega⟩
    · by_cases hp : (placeB (placeS o.from_.toNat) && placeB (placeS o.to_.toNat)) = true
      · have h1 := copies_le C (placeS o.from_.toNat) (placeS o.to_.toNat)
        rw [send_ok h hp (by rw [dataS_small]; omega) (by omega)]
        refine ⟨_, good_ok h _ _ _ (by omega), ?_⟩
        rw [List.length_append]
        simp only [newP, List.length_map, List.length_range]
        omega
      · rw [send_bad C _ (by simpa using hp)]
        exact ⟨P, h.mono (Nat.le_succ q), by omega⟩

theorem PQ.grow {w0 w w' : World} {F F' : Nat → Prop} {N M O : Nat} {S C : NetS} {L : LinkS} (h : PQ w0 w F N S M L) (hn : Net w0 w' F' O C) (hlo : ∀ k, F k → w0.heap.size ≤ k) (ho : Only F w w') (hg : Grows F F' w) : PQ w0 w' F' N S M L := by
  have h1 := h.off hlo ho
  obtain ⟨G, vs, vp, vc, hp⟩ := h
  refine ⟨G, vs, vp, vc, hp.n.keep ho hlo (fun b hb hz => (hp.z b hz).2.1 hb), hp.m.keep ho (fun k hk hz => (hp.z k hz).2.2 hk), hp.lo, hp.sep, fun k hk => ?_⟩
  refine ⟨hn.bd k hk, fun hG => ?_, fun hM => ?_⟩
  · have h2 := hp.n.bd k hG
    exact (hp.z k (hg k h2 hk)).2.1 hG
  · have h2 := hp.m.lt k hM
    exact (hp.z k (hg k h2 hk)).2.2 hM
theorem clone_pq {w0 w : World} {N M : Nat} {S : NetS} {L : LinkS} {P : List Pc} {q : Nat} (h : PQ w0 w (fun _ => False) N S M L) (hr : Run S P L q) (hq : q ≤ 1000) (hs : L.script.length ≤ 140737488355328) :
    Calls Try.prog 31 #[.pointer (some ⟨N, 0, none⟩)] w fun e w' => ∃ O F' C, e = .returned (.pointer (some ⟨O, 0, none⟩)) ∧ Net w0 w' F' O C ∧ PQ w0 w' F' N S M L ∧ GoodE C q := by
  have hsm := (run_small hr hq).1
  obtain ⟨F, vs, vp, vc, hp⟩ := h
  have hb := hp.n.bel.size
  refine (clone_at N F S w hp.n.at_ (by rw [← hr.script]; exact hs) (by have := hsm.pend; omega) (by have := hsm.keys; have := hsm.sent; omega)).mono ?_
  rintro e w' ⟨O, F', K, rfl, h1, h2, h3, h4, h5⟩
  have h6 := h1.bound
  refine ⟨O, _, S.part K, rfl, ⟨h6, fun b hb => hb.2, fun b hb' => Nat.le_trans hb (h2 b hb'.1), hp.n.bel.trans (h3.below hb (fun _ x => x.elim))⟩, ?_, ⟨P, good_part hr.good h4 h5, hr.few⟩⟩
  exact PQ.more (Z := fun _ => False) ⟨F, vs, vp, vc, hp⟩ h3 (fun k hk => .inr ⟨h2 k hk.1, hk.2⟩)

set_option maxRecDepth 100000 in
set_option maxHeartbeats 4000000 in
theorem lawCln (w : World) (A0 : Option Addr) (n0 c0 : Nat) (X0 : List UInt8) (HX0 : Given w 1 A0 n0 c0 (byteVals' X0)) (A : Option Addr) (n c : Nat) (X : List Op4) (HX : Given w 4 A n c (opVals X)) (HN : X.length = n) (B : Option Addr) (k d : Nat) (Y : List Op4) (HY : Given w 4 B k d (opVals Y)) (HK : Y.length = k) :
    Calls Try.prog 11 #[.slice A0 n0 c0, .slice A n c, .slice B k d] w fun e w' => e = .returned (.bool true) ∧ Below w.heap.size w w' := by
  have hnc := HX.le
  have hmx := HX.mx
  have hkd := HY.le
  have hmy := HY.mx
  have HXX := Lib.hid HX
  have HYY := Lib.hid HY
  have HXS := Lib.hid HX0
  have HSL : Hid (X0.length ≤ 1000000000000000) := Lib.hid (by have := given_len HX0; have := HX0.rch; have := reachBytes_lt; omega)
  have HSL2 : Hid (X0.length ≤ 140737488355328) := Lib.hid (by have := given_len HX0; have := HX0.rch; have := reachBytes_lt; omega)
  have HS0 : Hid (X0.length = n0) := Lib.hid (given_len HX0)
  have HB0 : Hid (0 + n0 ≤ maxLen ∧ (0 + n0) * 1 ≤ 140737488355328) := Lib.hid ⟨by have := HX0.le; have := HX0.mx; omega, by have := HX0.rch; have := reachBytes_lt; omega⟩
  have HNX := Lib.hid HN
  have HKY := Lib.hid HK
  clear HX HX0 HY HN HK
  obtain ⟨m, hmd⟩ : ∃ m, min n 40 = m := ⟨_, rfl⟩
  obtain ⟨l, hld⟩ : ∃ l, min k 20 = l := ⟨_, rfl⟩
  have hw1 : min (n : Int) 40 = (m : Int) := by omega
  have hw2 : min (k : Int) 20 = (l : Int) := by omega
  have hm40 : m ≤ 40 := by omega
  have hl20 : l ≤ 20 := by omega
  have hmc : (m : Int) ≤ (c : Int) := by omega
  have hld2 : (l : Int) ≤ (d : Int) := by omega
  have hmcn : m ≤ c := by omega
  have hldn : l ≤ d := by omega
  have hm0 : (0 : Int) ≤ (m : Int) := by omega
  have hl0 : (0 : Int) ≤ (l : Int) := by omega
  have HLM : Hid ((X.take m).length = m) := Lib.hid (by rw [List.length_take, HNX.out]; omega)
  have HLL : Hid ((Y.take l).length = l) := Lib.hid (by rw [List.length_take, HKY.out]; omega)
  clear hmd hld
  go_enter Try.func11, Try.ntmps11
  go_upto_region 1 with fail
  go_cut [1, 2] (fun s1 s2 wx => s1 = .slice A m c ∧ s2 = .slice B l d ∧ Only Nobody w wx)
  case first =>
    go_quiet (fail)
    go_wp2_with fail
    go_meet
    exact ⟨rfl, rfl, (Only.refl _ _).drewN _⟩
  case rest =>
    obtain ⟨rfl, rfl, ho0⟩ := hcut
    have HB00 : Hid (Below w.heap.size w wc) := Lib.hid (ho0.below (Nat.le_refl _) (fun _ x => x.elim))
    clear ho0 hw1 hw2
    go_wp2_with fail
    refine (new_given HXS.out HB00.out).mono ?_
    rintro e w1 ⟨N, F1, rfl, hn1, ho1, hf1⟩
    have HN1 := Lib.hid hn1
    clear hf1
    obtain ⟨i0, hi0, hz0, hz1, hz2⟩ := info_parts infoU8
    have HW2 : Hid ((w1.alloc (.cells #[] 5)).ownsRow w1.heap.size 5 1 (.slice (some ⟨w1.heap.size, 0, none⟩) 0 0) 0 []) := Lib.hid (World.ownsRow_made (base := w1.heap.size) (e := 5) (size := 1) w1 #[] 0 (Nat.le_refl _) (Nat.zero_le _) rfl)
    have HR : Hid (Reads (w1.alloc (.cells #[] 5)) w.heap.size 1 A0 n0 (byteVals X0)) := Lib.hid (HXS.out.rd.below (hn1.bel.trans ((Below.refl _ _).alloc hn1.bel.size _)))
    have HU : Hid (∀ u ∈ byteVals X0, u.oneCell' = true) := Lib.hid (by intro u hu; obtain ⟨x, _, rfl⟩ := List.mem_map.1 hu; rfl)
    have HSZ : Hid (w1.heap.size ≤ (w1.alloc (.cells #[] 5)).heap.size) := Lib.hid (by simp)
    clear hn1 ho1
    go_wp2_with (at_builtin
                 refine wpList_append_any _ rfl (.tmp 25) (.tmp 26) _ rfl w1.heap.size 5 i0 _ 1 1 Try.underlying26 hi0 hz0 hz1 hz2 rfl (by omega) (.slice (some ⟨w1.heap.size, 0, none⟩) 0 0) 0 [] rfl HW2.out _ A0 n0 c0 (byteVals X0) rfl HR.out HU.out HB0.out.1 HB0.out.2 HSZ.out ?_
                 intro v2 w2 hown2 hg2 hat2
                 obtain ⟨A2, c2, rfl⟩ := own_form hown2
                 have HO2 := Lib.hid hown2
                 have HG2 := Lib.hid hg2
                 clear hown2 hg2 hat2)
    have HP2 : Hid (PQ w (w2.alloc (.cells #[.slice A2 n0 c2, .int .i64 0, .int .i64 0, .int .i64 0, .slice none 0 0, .slice none 0 0] 49)) (fun _ => False) N (newNet X0) w2.heap.size ⟨X0, 0, 0, 0, [], []⟩) := Lib.hid (pq_start HN1.out HG2.out (by
      have := HO2.out
      rw [Nat.zero_add, List.nil_append] at this
      rw [HS0.out]
      exact this))
    obtain ⟨M, HM⟩ : ∃ M, Hid (M = w2.heap.size) := ⟨_, Lib.hid rfl⟩
    rw [← HM.out] at HP2 ⊢
    have hpn := ptr_nil
    refine (known_any _).mono ?_
    rintro e w3 ⟨rfl, hb3⟩
    have HP3 := Lib.hid (HP2.out.same (Only.of_below hb3 Nobody))
    clear hb3
    go_wp2_with fail
    go_loopw [9] (fun i wr => ∃ (j : Nat) (S : NetS) (P : List Pc) (K : LinkS), i = .int .i64 (j : Int) ∧ j ≤ m ∧ Hid (PQ w wr (fun _ => False) N S M K) ∧ Hid (Run S P K (j)) ∧ Hid (K.script = X0)) (fun i _ => m - (intOf i).toNat)
    case atStart => exact ⟨0, _, _, _, rfl, Nat.zero_le _, HP3, Lib.hid (run_new X0 HSL.out), Lib.hid rfl⟩
    case round =>
      obtain ⟨j, S, P, K, rfl, hj, HP, HRU, HKS⟩ := hrel
      by_cases hjm : j < m
      · have hji : (j : Int) < (m : Int) := by omega
        have hj0 : (0 : Int) ≤ (j : Int) := by omega
        obtain ⟨o, ho⟩ : ∃ o, (X.take m)[j]? = some o := ⟨(X.take m)[j]'(by rw [HLM.out]; exact hjm), List.getElem?_eq_getElem (by rw [HLM.out]; exact hjm)⟩
        have hXo : X[j]? = some o := take_get ho
        obtain ⟨ad, rfl⟩ := ops_some HXX.out (by have := (List.getElem?_eq_some_iff.1 hXo).1; omega)
        obtain ⟨hc0, hc1, hc2, hc3⟩ := op_cells HXX.out hXo HP.out.bel
        clear ho hXo
        go_wp2_with fail
        refine (agree_any o HP.out (fun _ h => h.elim) HRU.out (by omega)).mono ?_
        rintro e w4 ⟨rfl, S', P', K', hp4, hr4, ho4, hs4⟩
        have HP4 := Lib.hid hp4
        have HR4 := Lib.hid hr4
        have HS4 : Hid (K'.script = X0) := Lib.hid (hs4.trans HKS.out)
        clear hp4 hr4 ho4 hs4 hc0 hc1 hc2 hc3
        go_wp2_with fail
        go_roundw
        case rel =>
          first
          | exact ⟨j + 1, S', P', K', by go_num, by omega, HP4, HR4, HS4⟩
          | ((repeat apply Exists.intro); exact ⟨⟨j + 1, S', P', K', by go_num, by omega, HP4, HR4, HS4⟩, rfl⟩)
        case measure => simp [intOf]; omega
      · obtain rfl : j = m := by omega
        have hcn := ptr_nil
        go_wp2_with fail
        refine (clone_pq HP.out HRU.out (by omega) (by rw [HKS.out]; exact HSL2.out)).mono ?_
        rintro e w5 ⟨O, G0, C0, rfl, hn5, hp5, hg5⟩
        have HN5 := Lib.hid hn5
        have HP5 := Lib.hid hp5
        have HG5 := Lib.hid hg5
        obtain ⟨qq, hqq⟩ : ∃ qq, j = qq := ⟨_, rfl⟩
        clear hn5 hp5 hg5
        go_wp2_with fail
        go_loopw [11] (fun i wr => ∃ (t : Nat) (G : Nat → Prop) (C : NetS), i = .int .i64 (t : Int) ∧ t ≤ l ∧ Hid (Net w wr G O C) ∧ Hid (PQ w wr G N S M K) ∧ Hid (GoodE C (j + 2 * t))) (fun i _ => l - (intOf i).toNat)
        case atStart => exact ⟨0, G0, C0, rfl, Nat.zero_le _, HN5, HP5, HG5⟩
        case round =>
          obtain ⟨t, G, C, rfl, ht, HNC, HPC, HGC⟩ := hrel
          by_cases htl : t < l
          · have hti : (t : Int) < (l : Int) := by omega
            have ht0 : (0 : Int) ≤ (t : Int) := by omega
            obtain ⟨o, ho⟩ : ∃ o, (Y.take l)[t]? = some o := ⟨(Y.take l)[t]'(by rw [HLL.out]; exact htl), List.getElem?_eq_getElem (by rw [HLL.out]; exact htl)⟩
            have hXo : Y[t]? = some o := take_get ho
            obtain ⟨ad, rfl⟩ := ops_some HYY.out (by have := (List.getElem?_eq_some_iff.1 hXo).1; omega)
            obtain ⟨hc0, hc1, hc2, hc3⟩ := op_cells HYY.out hXo HPC.out.bel
            clear ho hXo
            go_wp2_with fail
            refine (perform_net w _ G O C o.kind.toNat o HNC.out (HGC.out.small (by omega)) (o.kind.toNat_lt)).mono ?_
            rintro e w6 ⟨rfl, G6, hn6, ho6, hg6⟩
            have HN6 := Lib.hid hn6
            have HP6 := Lib.hid (HPC.out.grow hn6 HNC.out.lo ho6 hg6)
            have HG6 := Lib.hid (goodE_perf HGC.out (by omega) o.kind.toNat o)
            obtain ⟨C6, HC6⟩ : ∃ C6, Hid ((perfS C o.kind.toNat o).2 = C6) := ⟨_, Lib.hid rfl⟩
            rw [HC6.out] at HN6 HG6
            clear hn6 ho6 hg6 hc0 hc1 hc2 hc3
            have htm : (t : Int).tmod 2 = (t : Int) % 2 := Int.tmod_eq_emod_of_nonneg ht0
            by_cases hev : t % 2 = 0
            · have hevI : (t : Int) % 2 = 0 := by omega
              go_wp2_with fail
              refine (perform_net w _ G6 O C6 2 ⟨0, 0, 0, 0⟩ HN6.out (HG6.out.small (by omega)) (by omega)).mono ?_
              rintro e w7 ⟨rfl, G7, hn7, ho7, hg7⟩
              have HN7 := Lib.hid hn7
              have HP7 := Lib.hid (HP6.out.grow hn7 HN6.out.lo ho7 hg7)
              have HG7 : Hid (GoodE (perfS C6 2 ⟨0, 0, 0, 0⟩).2 (j + 2 * (t + 1))) := Lib.hid (by
                have := goodE_perf HG6.out (by omega) 2 ⟨0, 0, 0, 0⟩
                rw [show j + 2 * (t + 1) = j + 2 * t + 1 + 1 by omega]
                exact this)
              clear hn7 ho7 hg7
              go_wp2_with fail
              go_roundw
              case rel =>
                first
                | exact ⟨t + 1, G7, _, by go_num, by omega, HN7, HP7, HG7⟩
                | ((repeat apply Exists.intro); exact ⟨⟨t + 1, G7, _, by go_num, by omega, HN7, HP7, HG7⟩, rfl⟩)
              case measure => simp [intOf]; omega
            · have hevI : (t : Int) % 2 = 1 := by omega
              have HG7 : Hid (GoodE C6 (j + 2 * (t + 1))) := Lib.hid (by
                obtain ⟨P7, h1, h2⟩ := HG6.out
                exact ⟨P7, h1.mono (by omega), by omega⟩)
              go_wp2_with fail
              go_roundw
              case rel =>
                first
                | exact ⟨t + 1, G6, _, by go_num, by omega, HN6, HP6, HG7⟩
                | ((repeat apply Exists.intro); exact ⟨⟨t + 1, G6, _, by go_num, by omega, HN6, HP6, HG7⟩, rfl⟩)
              case measure => simp [intOf]; omega
          · obtain rfl : t = l := by omega
            have HPQ3 := Lib.hid (HPC.out.less (Z' := fun _ => False) (fun _ h => h.elim))
            have HRU3 : Hid (Run S P K (qq + 0)) := Lib.hid (by rw [← hqq]; exact HRU.out)
            have hq40 : qq ≤ 40 := by omega
            go_wp2_with fail
            go_loopw [12] (fun i wr => ∃ (j : Nat) (S : NetS) (P : List Pc) (K : LinkS), i = .int .i64 (j : Int) ∧ j ≤ t ∧ Hid (PQ w wr (fun _ => False) N S M K) ∧ Hid (Run S P K (qq + j)) ∧ Hid (K.script = X0)) (fun i _ => t - (intOf i).toNat)
            case atStart => exact ⟨0, _, _, _, rfl, Nat.zero_le _, HPQ3, HRU3, HKS⟩
            case round =>
              obtain ⟨j, S, P, K, rfl, hj, HP, HRU, HKS⟩ := hrel
              by_cases hjm : j < t
              · have hji : (j : Int) < (t : Int) := by omega
                have hj0 : (0 : Int) ≤ (j : Int) := by omega
                obtain ⟨o, ho⟩ : ∃ o, (Y.take t)[j]? = some o := ⟨(Y.take t)[j]'(by rw [HLL.out]; exact hjm), List.getElem?_eq_getElem (by rw [HLL.out]; exact hjm)⟩
                have hXo : Y[j]? = some o := take_get ho
                obtain ⟨ad, rfl⟩ := ops_some HYY.out (by have := (List.getElem?_eq_some_iff.1 hXo).1; omega)
                obtain ⟨hc0, hc1, hc2, hc3⟩ := op_cells HYY.out hXo HP.out.bel
                clear ho hXo
                go_wp2_with fail
                refine (agree_any o HP.out (fun _ h => h.elim) HRU.out (by omega)).mono ?_
                rintro e w4 ⟨rfl, S', P', K', hp4, hr4, ho4, hs4⟩
                have HP4 := Lib.hid hp4
                have HR4 := Lib.hid hr4
                have HS4 : Hid (K'.script = X0) := Lib.hid (hs4.trans HKS.out)
                clear hp4 hr4 ho4 hs4 hc0 hc1 hc2 hc3
                go_wp2_with fail
                go_roundw
                case rel =>
                  first
                  | exact ⟨j + 1, S', P', K', by go_num, by omega, HP4, HR4, HS4⟩
                  | ((repeat apply Exists.intro); exact ⟨⟨j + 1, S', P', K', by go_num, by omega, HP4, HR4, HS4⟩, rfl⟩)
                case measure => simp [intOf]; omega
              · obtain rfl : j = t := by omega
                go_wp2_with fail
                refine (counts_pq HP.out HRU.out (by omega)).mono ?_
                rintro e w4 ⟨rfl, ho4⟩
                have HB4 := Lib.hid ((HP.out.same ho4).bel)
                clear ho4
                go_wp2_with fail
                go_ret
                exact ⟨rfl, HB4.out⟩

end Go.Proofs.Ytbfkmdcjamillaa
