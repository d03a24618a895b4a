/- Path, the reference: Delete at one part. -/
import Derived.Test.YtdccckoelnnnoaaGreatDoorRdB
namespace Go.Proofs.YtdccckoelnnnoaaGreatDoor
open Go.RowKit
attribute [local go_sem ↓] Go.wp_at_zero Go.wp_at_succ

/-- A list without its j-th element. -/
def rm {α : Type} (L : List α) (j : Nat) : List α := L.take j ++ L.drop (j + 1)
section
variable {α : Type} {L : List α} {j q : Nat} {x : α}
theorem rm_full (h : L.length ≤ j) : rm L j = L := by
  unfold rm
  rw [List.take_of_length_le h, List.drop_of_length_le (by omega), List.append_nil]
theorem rm_same : rm (L.take (j + 1)) j = rm (L.take j) j := by
  unfold rm
  rw [List.take_take, List.take_take, List.drop_of_length_le (by rw [List.length_take]; omega), List.drop_of_length_le (by rw [List.length_take]; omega)]
  rw [Nat.min_eq_left (by omega), Nat.min_self]
theorem rm_next (h : L[q]? = some x) (hq : q ≠ j) : rm (L.take (q + 1)) j = rm (L.take q) j ++ [x] := by
  have hl : (L.take q).length = q := by
    have := (List.getElem?_eq_some_iff.1 h).1
    rw [List.length_take]; omega
  rw [take_next h]
  rcases Nat.lt_or_gt_of_ne hq with hlt | hgt
  · rw [rm_full (by rw [List.length_append, hl]; simp; omega), rm_full (by omega)]
  · unfold rm
    rw [List.take_append_of_le_length (by omega), List.drop_append_of_le_length (by omega), List.append_assoc]
theorem rm_le : (rm (L.take q) j).length ≤ q := by
  unfold rm
  rw [List.length_append, List.length_take, List.length_drop, List.length_take]
  omega
end
theorem rm_cells {α : Type} {g : α → List Value} {L : List α} {j q : Nat} {o : α} (h : L[q]? = some o) (hq : q ≠ j) : cells g (rm (L.take q) j) ++ g o = cells g (rm (L.take (q + 1)) j) := by
  rw [rm_next h hq, cells_append]
  simp [cells]
theorem All2.rm_ {α β : Type} {R : α → β → Prop} {A : List α} {B : List β} (h : All2 R A B) (j : Nat) : All2 R (rm A j) (rm B j) := (h.take j).app (h.drop (j + 1))
theorem delB_post {S : Nat → Prop} {n N n1 n2 c1 c2 jf jl : Nat} {T : VT} {v : VC} {F : List FC} {V : List VC} {w wE : World} {A1 A2 : Option Addr} (hN : w.heap.size = N) (heq : v.k = T.k ∧ v.i = T.i ∧ v.s = T.s ∧ v.t = T.t ∧ v.ln ≤ v.lc ∧ v.fn ≤ v.fc) (hA : All2 (VAt w S n) V T.l) (hB : All2 (fun c x => c.n = x.1 ∧ VAt w S n c.v x.2) F T.f)
    (h1 : RowA FC.vals 7 wE (fun b => N ≤ b) A1 n1 (rm F jf) ∧ n1 ≤ c1) (h2 : RowA VC.vals 6 wE (fun b => N ≤ b) A2 n2 (rm V jl) ∧ n2 ≤ c2) (hO : Only (fun b => N ≤ b) w wE) :
    VAt wE (NewS S w) (n + 1) ⟨v.k, v.i, v.s, v.t, A2, n2, c2, A1, n1, c1⟩ (.mk T.k T.i T.s T.t (rm T.l jl) (rm T.f jf)) :=
  ⟨⟨heq.1, heq.2.1, heq.2.2.1, heq.2.2.2.1, h2.2, h1.2⟩, ⟨_, h2.1.mono (fun b _ hb => .inr (by rw [hN]; exact hb)), (hA.imp fun _ _ h => vat_low h hN hO).rm_ jl⟩,
    ⟨_, h1.1.mono (fun b _ hb => .inr (by rw [hN]; exact hb)), (hB.imp fun _ _ h => (⟨h.1, vat_low h.2 hN hO⟩ : _ ∧ _)).rm_ jf⟩⟩

set_option maxRecDepth 100000 in
set_option maxHeartbeats 32000000 in
theorem rdel1_any (k i : Int) (nm : ByteArray) (v : VC) (T U : VT) (rest : List VT) (S : Nat → Prop) (n c : Nat) (ad : Addr) (w : World) (hk : k = 1 ∨ k = 2) (hval : validB ⟨k, i, nm⟩ = true) (hap : appT ⟨k, i, nm⟩ T = true) (hL : leadL ⟨k, i, nm⟩ T = U :: rest) (hsz : T.size ≤ 140737488351232) (h : VAt w S (n + 1) v T) (hp : Pts w (some ad) 1 [⟨k, i, nm⟩]) : Calls Tryz.prog 13 #[.agg #[.int .i64 v.k, .int .i64 v.i, .int .i64 v.s, .string v.t, .slice v.la v.ln v.lc, .slice v.fa v.fn v.fc], .slice (some ad) 1 c] w (RepPost S n (delT T ⟨k, i, nm⟩) w) := by
  have HLP := Lib.hid (lead_parts hval (by rcases hk with rfl | rfl <;> rfl) hap hL)
  have hfn : v.fn ≤ 1353245080300 := vfn_le h (by omega)
  have hln : v.ln ≤ 1599289640355 := vln_le h (by omega)
  have HP := Lib.hid hp
  have HPA : Hid (∀ w', Only Nobody w w' → (w'.cell? ad = some (.int .i64 k) ∧ w'.cell? ⟨ad.block, ad.off + 1, none⟩ = some (.int .i64 i) ∧ w'.cell? ⟨ad.block, ad.off + 2, none⟩ = some (.string nm))) := Lib.hid fun w' ho => by
    obtain ⟨z0, z1, z2⟩ := (HP.out.same ho).at_ (i := 0) (o := ⟨k, i, nm⟩) rfl
    rw [Nat.zero_mul, addr_zero] at z0 z1 z2
    exact ⟨z0, z1, z2⟩
  obtain ⟨heq, ⟨V, hV, hA⟩, ⟨F, hF, hB⟩⟩ := h
  have HTF : Hid (T.f.length = v.fn) := Lib.hid (by rw [← hB.1, hF.len])
  have HTL : Hid (T.l.length = v.ln) := Lib.hid (by rw [← hA.1, hV.len])
  obtain ⟨jf, jl, HJ1, HJ2, HDT⟩ : ∃ jf jl : Nat, Hid (k = 1 → jl = v.ln ∧ ∀ q o, F[q]? = some o → (q < jf → ¬ o.n = nm) ∧ (q = jf → o.n = nm)) ∧ Hid (k = 2 → jf = v.fn ∧ i = (jl : Int)) ∧ Hid (delT T ⟨k, i, nm⟩ = .mk T.k T.i T.s T.t (rm T.l jl) (rm T.f jf)) := by
    rcases HLP.out.2 with ⟨h1, j, hj, _, hjU⟩ | ⟨h1, j, hj, _, _⟩
    · have h1' : k = 1 := h1
      subst h1'
      refine ⟨j, v.ln, Lib.hid fun _ => ⟨rfl, fun q o ho => ?_⟩, Lib.hid fun h => absurd h (by decide), Lib.hid ?_⟩
      · obtain ⟨x, hx, hn, _⟩ := hB.get ho
        refine ⟨fun h e => (fieldL_some hj).2 q x h hx (by rw [← hn]; exact e), fun h => ?_⟩
        subst h
        rw [hjU] at hx
        cases hx
        exact hn
      · rw [rm_full (by rw [HTL.out]; exact Nat.le_refl _)]
        unfold delT
        rw [if_neg (by simp), hj]
        rfl
    · have h2' : k = 2 := by rcases hk with h | h; exact absurd h h1; exact h
      subst h2'
      refine ⟨v.fn, j, Lib.hid fun h => absurd h (by decide), Lib.hid fun _ => ⟨rfl, hj⟩, Lib.hid ?_⟩
      rw [rm_full (L := T.f) (by rw [HTF.out]; exact Nat.le_refl _)]
      unfold delT
      rw [if_pos rfl, show ({ kind := 2, idx := i, name := nm } : Pt).idx = (j : Int) from hj]
      rfl
  have HEQ := Lib.hid heq
  have HV := Lib.hid hV
  have HA := Lib.hid hA
  have HF := Lib.hid hF
  have HB := Lib.hid hB
  clear hp hval hap hL heq hV hA hF hB
  obtain ⟨N, HN⟩ : ∃ N, Hid (w.heap.size = N) := ⟨_, Lib.hid rfl⟩
  obtain ⟨W, HW⟩ : ∃ W, Hid (W = ((w.alloc (.cells #[.int .i64 v.k, .int .i64 v.i, .int .i64 v.s, .string v.t, .slice v.la v.ln v.lc, .slice v.fa v.fn v.fc] 25)).alloc (.cells #[.int .i64 0, .int .i64 0, .int .i64 0, .string ⟨#[]⟩, .slice none 0 0, .slice none 0 0] 25))) := ⟨_, Lib.hid rfl⟩
  have HOA : Hid (Only Nobody w W) := Lib.hid (by rw [HW.out]; exact ((Only.refl _ _).alloc _).alloc _)
  have HB0 : Hid (Blk W (N) 25 #[.int .i64 v.k, .int .i64 v.i, .int .i64 v.s, .string v.t, .slice v.la v.ln v.lc, .slice v.fa v.fn v.fc]) := Lib.hid (by
    have := (Blk.new w 25 #[.int .i64 v.k, .int .i64 v.i, .int .i64 v.s, .string v.t, .slice v.la v.ln v.lc, .slice v.fa v.fn v.fc])
    rw [HW.out, ← HN.out]
    simpa using (this.alloc (.cells #[.int .i64 0, .int .i64 0, .int .i64 0, .string ⟨#[]⟩, .slice none 0 0, .slice none 0 0] 25)))
  have HB1 : Hid (Blk W (N + 1) 25 #[.int .i64 0, .int .i64 0, .int .i64 0, .string ⟨#[]⟩, .slice none 0 0, .slice none 0 0]) := Lib.hid (by
    have := (Blk.new (w.alloc (.cells #[.int .i64 v.k, .int .i64 v.i, .int .i64 v.s, .string v.t, .slice v.la v.ln v.lc, .slice v.fa v.fn v.fc] 25)) 25 #[.int .i64 0, .int .i64 0, .int .i64 0, .string ⟨#[]⟩, .slice none 0 0, .slice none 0 0])
    rw [HW.out, ← HN.out]
    simpa using this)
  have HWS : Hid (W.heap.size = N + 2) := Lib.hid (by rw [HW.out, ← HN.out]; simp)
  go_enter Tryz.func13, Tryz.ntmps13
  go_upto_region 1 with fail
  rw [← HW.out, HN.out]
  have b0 : W.cell? ⟨N, 0, none⟩ = some (.int .i64 v.k) := (HB0.out).cell 0
  have bf0 : W.frozen? ⟨N, 0, none⟩ = false := (HB0.out).frozen 0
  have b1 : W.cell? ⟨N, 1, none⟩ = some (.int .i64 v.i) := (HB0.out).cell 1
  have bf1 : W.frozen? ⟨N, 1, none⟩ = false := (HB0.out).frozen 1
  have b2 : W.cell? ⟨N, 2, none⟩ = some (.int .i64 v.s) := (HB0.out).cell 2
  have bf2 : W.frozen? ⟨N, 2, none⟩ = false := (HB0.out).frozen 2
  have b3 : W.cell? ⟨N, 3, none⟩ = some (.string v.t) := (HB0.out).cell 3
  have bf3 : W.frozen? ⟨N, 3, none⟩ = false := (HB0.out).frozen 3
  have b4 : W.cell? ⟨N, 4, none⟩ = some (.slice v.la v.ln v.lc) := (HB0.out).cell 4
  have bf4 : W.frozen? ⟨N, 4, none⟩ = false := (HB0.out).frozen 4
  have b5 : W.cell? ⟨N, 5, none⟩ = some (.slice v.fa v.fn v.fc) := (HB0.out).cell 5
  have bf5 : W.frozen? ⟨N, 5, none⟩ = false := (HB0.out).frozen 5
  go_upto_region 10 with fail
  obtain ⟨W3, HW3⟩ : ∃ W3, Hid (W3 = W.alloc (.cells #[.int .i64 v.k, .int .i64 v.i, .int .i64 v.s, .string v.t, .slice none 0 0, .slice none 0 0] 25)) := ⟨_, Lib.hid rfl⟩
  rw [← HW3.out, HWS.out]
  obtain ⟨K, HK⟩ : ∃ K, Hid (N + 2 = K) := ⟨_, Lib.hid rfl⟩
  rw [HK.out]
  have HO3 : Hid (Only Nobody W W3) := Lib.hid (by rw [HW3.out]; exact (Only.refl _ _).alloc _)
  have HOA3 : Hid (Only Nobody w W3) := Lib.hid (HOA.out.trans HO3.out)
  have HS3 : Hid (W3.heap.size = K + 1) := Lib.hid (by rw [HW3.out, ← HK.out]; simp [HWS.out])
  have HBO : Hid (Blk W3 K 25 #[.int .i64 v.k, .int .i64 v.i, .int .i64 v.s, .string v.t, .slice none 0 0, .slice none 0 0]) := Lib.hid (by rw [HW3.out, ← HK.out, ← HWS.out]; exact Blk.new _ _ _)
  have hKN : K = N + 2 := HK.out.symm
  have HKN := Lib.hid hKN
  have HFW : Hid (∀ w', Only (fun b => b = K) W3 w' → RowA FC.vals 7 w' (fun b => S b ∧ b < N) v.fa v.fn F) := Lib.hid fun w' h => (((HF.out.mono (S' := fun b => S b ∧ b < N) (fun b hb hs => ⟨hs, by rw [← HN.out]; exact hb⟩)).same HOA3.out).keep h (fun b hb e => by have := hb.2; have := HKN.out; omega))
  have HVW : Hid (∀ w', Only (fun b => b = K) W3 w' → RowA VC.vals 6 w' (fun b => S b ∧ b < N) v.la v.ln V) := Lib.hid fun w' h => (((HV.out.mono (S' := fun b => S b ∧ b < N) (fun b hb hs => ⟨hs, by rw [← HN.out]; exact hb⟩)).same HOA3.out).keep h (fun b hb e => by have := hb.2; have := HKN.out; omega))
  have HSB : Hid (∀ w', Only (fun b => b = K) W3 w' → (w'.cell? ⟨N, 0, none⟩ = some (.int .i64 v.k) ∧ w'.cell? ⟨N, 1, none⟩ = some (.int .i64 v.i) ∧ w'.cell? ⟨N, 2, none⟩ = some (.int .i64 v.s) ∧ w'.cell? ⟨N, 3, none⟩ = some (.string v.t) ∧ w'.cell? ⟨N, 4, none⟩ = some (.slice v.la v.ln v.lc) ∧ w'.cell? ⟨N, 5, none⟩ = some (.slice v.fa v.fn v.fc)) ∧ (w'.cell? ad = some (.int .i64 k) ∧ w'.cell? ⟨ad.block, ad.off + 1, none⟩ = some (.int .i64 i) ∧ w'.cell? ⟨ad.block, ad.off + 2, none⟩ = some (.string nm))) := Lib.hid fun w' h => by
    have h0 := h.blk (HO3.out.blk HB0.out (fun x => x)) (by have := HKN.out; omega)
    exact ⟨⟨h0.cell 0, h0.cell 1, h0.cell 2, h0.cell 3, h0.cell 4, h0.cell 5⟩, HPA.out w' (HOA3.out.trans_more (h.mono (fun b e => .inr (by rw [HN.out]; have := HKN.out; omega))))⟩
  have HBR : Hid (∀ w', Only (fun b => b = K) W3 w' → Blk w' (N + 1) 25 #[.int .i64 0, .int .i64 0, .int .i64 0, .string ⟨#[]⟩, .slice none 0 0, .slice none 0 0]) := Lib.hid fun w' h => h.blk (HO3.out.blk HB1.out (fun x => x)) (by have := HKN.out; omega)
  clear hKN b0 b1 b2 b3 b4 b5 bf0 bf1 bf2 bf3 bf4 bf5
  go_wp2_with fail
  go_loopw [11, 12] (fun gn iv wx => ∃ (q m : Nat) (A : Option Addr) (cc : Nat), iv = .int .i64 (q : Int) ∧ q ≤ v.fn ∧ gn = .bool (decide (jf < q)) ∧ Hid (m = (rm (F.take q) jf).length) ∧ Hid (Blk wx K 25 #[.int .i64 v.k, .int .i64 v.i, .int .i64 v.s, .string v.t, .slice none 0 0, .slice A m cc]) ∧ Hid (wx.ownsRow (K + 1) 59 7 (.slice A m cc) m (cells FC.vals (rm (F.take q) jf))) ∧ Hid (Only (fun b => b = K) W3 wx)) (fun _ iv _ => v.fn - (intOf iv).toNat)
  case atStart => exact ⟨0, 0, none, 0, rfl, Nat.zero_le _, rfl, Lib.hid (by simp [rm]), HBO, Lib.hid ⟨by simp [rm, cells], .inl ⟨rfl, rfl⟩⟩, Lib.hid (Only.refl _ _)⟩
  case round =>
    obtain ⟨q, m, A, cc, rfl, hq, rfl, HM, HBK, HRW, HON⟩ := hrel
    have hq0 : (0 : Int) ≤ (q : Int) := by omega
    obtain ⟨⟨b0, b1, b2, b3, b4, b5⟩, p0, p1, p2⟩ := HSB.out wr HON.out
    obtain ⟨i0, hi0, hz0, hz1, hz2⟩ := info_parts infoF
    by_cases hqn : q < v.fn
    · have hqI : (q : Int) < (v.fn : Int) := by omega
      obtain ⟨o, ho⟩ := HF.out.get hqn
      have HOq := Lib.hid ho
      obtain ⟨adf, hadf⟩ := HF.out.some_ (by omega)
      have HADF := Lib.hid hadf
      have HFR := HFW.out wr HON.out
      rw [hadf] at HFR b5
      obtain ⟨a0, a1, a2, a3, a4, a5, a6⟩ := HFR.fat ho
      clear HFR ho hadf b0 b1 b2 b3 b4
      go_upto_region 14 with fail
      go_cut [11, 79] (fun gn a wx => gn = .bool (decide (jf < q)) ∧ a = .bool (decide (q = jf)) ∧ Only Nobody wr wx)
      case first =>
        rcases hk with rfl | rfl
        · obtain ⟨hn1, hn2⟩ := (HJ1.out rfl).2 q o HOq.out
          rcases Nat.lt_trichotomy jf q with hjq | hjq | hjq
          · have hd : decide (jf < q) = true := decide_eq_true hjq
            have HD2 : Hid (decide (q = jf) = false) := Lib.hid (decide_eq_false (by omega))
            have HD := Lib.hid hd
            rw [hd]
            clear hd hn1 hn2
            by_cases hnm : o.n = nm
            · have hcb : (o.n.toList == nm.toList) = true := by rw [bytes_eq, decide_eq_true hnm]
              have hcl : o.n.toList = nm.toList := by rw [hnm]
              clear hnm
              go_quiet (fail)
              go_wp2_with fail
              go_meet
              exact ⟨by rw [HD.out], by rw [HD2.out], (Only.refl _ _).drewN _⟩
            · have hcb : (o.n.toList == nm.toList) = false := by rw [bytes_eq, decide_eq_false hnm]
              have hcl : ¬ o.n.toList = nm.toList := by simpa using hcb
              clear hnm
              go_quiet (fail)
              go_wp2_with fail
              go_meet
              exact ⟨by rw [HD.out], by rw [HD2.out], (Only.refl _ _).drewN _⟩
          · have hd : decide (jf < q) = false := decide_eq_false (by omega)
            have HD2 : Hid (decide (q = jf) = true) := Lib.hid (decide_eq_true hjq.symm)
            have HD := Lib.hid hd
            rw [hd]
            have hnm := hn2 hjq.symm
            have hcb : (o.n.toList == nm.toList) = true := by rw [bytes_eq, decide_eq_true hnm]
            have hcl : o.n.toList = nm.toList := by rw [hnm]
            clear hd hn1 hn2 hnm
            go_quiet (fail)
            go_wp2_with fail
            go_meet
            exact ⟨by rw [HD.out], by rw [HD2.out], (Only.refl _ _).drewN _⟩
          · have hd : decide (jf < q) = false := decide_eq_false (by omega)
            have HD2 : Hid (decide (q = jf) = false) := Lib.hid (decide_eq_false (by omega))
            have HD := Lib.hid hd
            rw [hd]
            have hnm := hn1 hjq
            have hcb : (o.n.toList == nm.toList) = false := by rw [bytes_eq, decide_eq_false hnm]
            have hcl : ¬ o.n.toList = nm.toList := by simpa using hcb
            clear hd hn1 hn2 hnm
            go_quiet (fail)
            go_wp2_with fail
            go_meet
            exact ⟨by rw [HD.out], by rw [HD2.out], (Only.refl _ _).drewN _⟩
        · have hjf := (HJ2.out rfl).1
          have HD2 : Hid (decide (q = jf) = false) := Lib.hid (decide_eq_false (by omega))
          clear hjf
          go_quiet (fail)
          go_wp2_with fail
          go_meet
          exact ⟨rfl, by rw [HD2.out], (Only.refl _ _).drewN _⟩
      case rest =>
      obtain ⟨rfl, rfl, hox⟩ := hcut
      have HXC := Lib.hid hox
      have HOC : Hid (Only (fun b => b = K) W3 wc) := Lib.hid (HON.out.trans (hox.mono (fun _ x => x.elim)))
      have HBC : Hid (Blk wc K 25 #[.int .i64 v.k, .int .i64 v.i, .int .i64 v.s, .string v.t, .slice none 0 0, .slice A m cc]) := Lib.hid (hox.blk HBK.out (fun x => x))
      have HRC : Hid (wc.ownsRow (K + 1) 59 7 (.slice A m cc) m (cells FC.vals (rm (F.take q) jf))) := Lib.hid (hox.row HRW.out (fun _ _ x => x))
      clear hox a0 a1 a2 a3 a4 a5 a6 b5 p0 p1 p2
      by_cases hqj : q = jf
      · have hd : decide (q = jf) = true := decide_eq_true hqj
        have HD : Hid (decide (jf < q + 1) = true) := Lib.hid (decide_eq_true (by omega))
        have HE : Hid (rm (F.take (q + 1)) jf = rm (F.take q) jf) := Lib.hid (by rw [hqj]; exact rm_same)
        rw [hd]
        clear hd hqj
        go_wp2_with fail
        go_roundw
        case rel => first | exact ⟨q + 1, m, A, cc, by go_num, by omega, by rw [HD.out], Lib.hid (by rw [HE.out]; exact HM.out), HBC, Lib.hid (by rw [HE.out]; exact HRC.out), HOC⟩ | ((repeat apply Exists.intro); exact ⟨⟨q + 1, m, A, cc, by go_num, by omega, by rw [HD.out], Lib.hid (by rw [HE.out]; exact HM.out), HBC, Lib.hid (by rw [HE.out]; exact HRC.out), HOC⟩, rfl⟩)
        case measure => simp [intOf]; omega
      · have hd : decide (q = jf) = false := decide_eq_false hqj
        have HD : Hid (decide (jf < q) = decide (jf < q + 1)) := Lib.hid (by congr 1; apply propext; omega)
        have HQJ := Lib.hid hqj
        rw [hd]
        clear hd hqj
        go_upto_region 16 with fail
        obtain ⟨⟨b0, b1, b2, b3, b4, b5⟩, p0, p1, p2⟩ := HSB.out wc HOC.out
        have HFR := HFW.out wc HOC.out
        rw [HADF.out] at HFR b5
        obtain ⟨a0, a1, a2, a3, a4, a5, a6⟩ := HFR.fat HOq.out
        clear HFR b0 b1 b2 b3 b4 p0 p1 p2
        have hk5 : wc.cell? ⟨K, 5, none⟩ = some (.slice A m cc) := HBC.out.cell 5
        have hk5a : (wc.alloc (.cells #[.string o.n, .int .i64 o.v.k, .int .i64 o.v.i, .int .i64 o.v.s, .string o.v.t, .slice o.v.la o.v.ln o.v.lc, .slice o.v.fa o.v.fn o.v.fc] 59)).cell? ⟨K, 5, none⟩ = some (.slice A m cc) := (HBC.out.alloc _).cell 5
        have HLT := Lib.hid HRC.out.lt
        have HRWa : Hid (∀ w', Only Nobody wc w' → w'.ownsRow (K + 1) 59 7 (.slice A m cc) m (cells FC.vals (rm (F.take q) jf))) := Lib.hid fun w' h => h.row HRC.out (fun _ _ x => x)
        have HRD : Hid (Reads (wc.drew.alloc (.cells #[.string o.n, .int .i64 o.v.k, .int .i64 o.v.i, .int .i64 o.v.s, .string o.v.t, .slice o.v.la o.v.ln o.v.lc, .slice o.v.fa o.v.fn o.v.fc] 59)) (wc.drew.heap.size + 1) 7 (some ⟨wc.drew.heap.size, 0, none⟩) 1 o.vals) := Lib.hid (reads_alloc wc.drew 59 #[.string o.n, .int .i64 o.v.k, .int .i64 o.v.i, .int .i64 o.v.s, .string o.v.t, .slice o.v.la o.v.ln o.v.lc, .slice o.v.fa o.v.fn o.v.fc] 7 1 rfl)
        have HU := Lib.hid (one_f o)
        have HKC : Hid (K + 1 ≤ wc.heap.size) := Lib.hid (by rw [← HS3.out]; exact HOC.out.size)
        have HBB : Hid (K + 1 ≤ (wc.drew.alloc (.cells #[.string o.n, .int .i64 o.v.k, .int .i64 o.v.i, .int .i64 o.v.s, .string o.v.t, .slice o.v.la o.v.ln o.v.lc, .slice o.v.fa o.v.fn o.v.fc] 59)).heap.size) := Lib.hid (by have := HKC.out; simp; omega)
        have hmq : m ≤ q := by rw [HM.out]; exact rm_le
        have HBY : Hid (m + 1 ≤ maxLen ∧ (m + 1) * 104 ≤ 140737488355328) := Lib.hid (by unfold maxLen; omega)
        go_region_law (first
          | (refine step_append_any _ (by rfl) (.tmp 81) (.tmp 87) 23 (by rfl) (K + 1) 59 i0 _ 7 104 Tryz.underlying23 hi0 hz0 hz1 hz2 (by rfl) (by omega) (.slice A m cc) m (cells FC.vals (rm (F.take q) jf)) (by rfl) (HRWa.out _ (by repeat (first | with_reducible exact Only.refl _ _ | with_reducible refine Only.drew ?_ | with_reducible refine Only.alloc ?_ _))) _ (some ⟨wc.drew.heap.size, 0, none⟩) 1 1 o.vals (by rfl) HRD.out HU.out HBY.out.1 HBY.out.2 HBB.out ?_; intro v4 w4 hown4 hgrow4 hat4; obtain ⟨A4, c4, rfl⟩ := own_form hown4; have HOW4 := Lib.hid hown4; have HG4 := Lib.hid hgrow4; have HB4 : Hid (Blk w4 K 25 #[.int .i64 v.k, .int .i64 v.i, .int .i64 v.s, .string v.t, .slice none 0 0, .slice A m cc]) := Lib.hid ((Only.of_grown hgrow4 (F := fun b => Value.ownBlock (.slice A m cc) = some b) (fun b e => e)).blk (HBC.out.drew.alloc _) (fun e => (by have := (HLT.out K e).1; omega))); have hk5' : w4.cell? ⟨K, 5, none⟩ = some (.slice A m cc) := HB4.out.cell 5; have hkf5 : w4.frozen? ⟨K, 5, none⟩ = false := HB4.out.frozen 5; clear hown4 hgrow4 hat4))
        all_goals
          have HB6 : Hid (Blk (w4.setCell ⟨K, 5, none⟩ (.slice A4 (m + 1) c4)) K 25 #[.int .i64 v.k, .int .i64 v.i, .int .i64 v.s, .string v.t, .slice none 0 0, .slice A4 (m + 1) c4]) := Lib.hid (HB4.out.set_ 5 _)
          have HR6 : Hid ((w4.setCell ⟨K, 5, none⟩ (.slice A4 (m + 1) c4)).ownsRow (K + 1) 59 7 (.slice A4 (m + 1) c4) (m + 1) (cells FC.vals (rm (F.take (q + 1)) jf))) := Lib.hid (by
            have h4 := HOW4.out
            rw [rm_cells HOq.out HQJ.out] at h4
            exact ((Only.refl (fun b => b = K) w4).setCell (p := ⟨K, 5, none⟩) (.inl rfl) _).row h4 (fun b e e2 => by have := (h4.lt b e).1; omega))
          have HO6 : Hid (Only (fun b => b = K) W3 (w4.setCell ⟨K, 5, none⟩ (.slice A4 (m + 1) c4))) := Lib.hid (((HOC.out.drew.alloc _).trans_more (Only.of_grown HG4.out (fun b e => .inr (by rw [HS3.out]; exact (HLT.out b e).1)))).setCell (p := ⟨K, 5, none⟩) (.inl rfl) _)
          have HM6 : Hid (m + 1 = (rm (F.take (q + 1)) jf).length) := Lib.hid (by rw [rm_next HOq.out HQJ.out, List.length_append, ← HM.out]; rfl)
          go_wp2_with fail
          go_roundw
          case rel => first | exact ⟨q + 1, m + 1, A4, c4, by go_num, by omega, by rw [HD.out], HM6, HB6, HR6, HO6⟩ | ((repeat apply Exists.intro); exact ⟨⟨q + 1, m + 1, A4, c4, by go_num, by omega, by rw [HD.out], HM6, HB6, HR6, HO6⟩, rfl⟩)
          case measure => simp [intOf]; omega
    · obtain rfl : q = v.fn := by omega
      have HR1 : Hid (wr.ownsRow (K + 1) 59 7 (.slice A m cc) m (cells FC.vals (rm F jf))) := Lib.hid (by have h := HRW.out; rw [List.take_of_length_le (by rw [HF.out.len]; exact Nat.le_refl _)] at h; exact h)
      obtain ⟨M, HMM⟩ : ∃ M, Hid (wr.heap.size = M) := ⟨_, Lib.hid rfl⟩
      have hKM : K + 1 ≤ M := by rw [← HMM.out, ← HS3.out]; exact HON.out.size
      obtain ⟨wm, HWM⟩ : ∃ wm, Hid (wm = wr) := ⟨_, Lib.hid rfl⟩
      have HONm : Hid (Only (fun b => b = K) W3 wm) := Lib.hid (by rw [HWM.out]; exact HON.out)
      have HR1m : Hid (wm.ownsRow (K + 1) 59 7 (.slice A m cc) m (cells FC.vals (rm F jf))) := Lib.hid (by rw [HWM.out]; exact HR1.out)
      have HMMm : Hid (wm.heap.size = M) := Lib.hid (by rw [HWM.out]; exact HMM.out)
      clear b0 b1 b2 b3 b4 p0 p1 p2
      go_wp2_with fail
      clear b5 hi0 hz0 hz1 hz2
      go_loopw [13] (fun iv wx => ∃ (q m2 : Nat) (A2 : Option Addr) (c2 : Nat), iv = .int .i64 (q : Int) ∧ q ≤ v.ln ∧ Hid (m2 = (rm (V.take q) jl).length) ∧ Hid (Blk wx K 25 #[.int .i64 v.k, .int .i64 v.i, .int .i64 v.s, .string v.t, .slice A2 m2 c2, .slice A m cc]) ∧ Hid (wx.ownsRow M 25 6 (.slice A2 m2 c2) m2 (cells VC.vals (rm (V.take q) jl))) ∧ Hid (Only (fun b => b = K) wm wx)) (fun iv _ => v.ln - (intOf iv).toNat)
      case atStart => exact ⟨0, 0, none, 0, rfl, Nat.zero_le _, Lib.hid (by simp [rm]), HBK, Lib.hid ⟨by simp [rm, cells], .inl ⟨rfl, rfl⟩⟩, Lib.hid (by rw [HWM.out]; exact Only.refl _ _)⟩
      case round =>
        clear hq hqn hq0
        obtain ⟨q, m2, A2, c2, rfl, hq, HM2, HBK2, HRW2, HON2⟩ := hrel
        have HOW : Hid (Only (fun b => b = K) W3 wr) := Lib.hid (HONm.out.trans HON2.out)
        have hq0 : (0 : Int) ≤ (q : Int) := by omega
        obtain ⟨⟨b0, b1, b2, b3, b4, b5⟩, p0, p1, p2⟩ := HSB.out wr HOW.out
        obtain ⟨i0, hi0, hz0, hz1, hz2⟩ := info_parts infoV
        by_cases hqn : q < v.ln
        · have hqI : (q : Int) < (v.ln : Int) := by omega
          obtain ⟨o, ho⟩ := HV.out.get hqn
          have HOq := Lib.hid ho
          obtain ⟨adf, hadf⟩ := HV.out.some_ (by omega)
          have HADF := Lib.hid hadf
          clear ho hadf
          go_upto_region 20 with fail
          go_cut [109] (fun a wx => a = .bool (!decide (q = jl)) ∧ Only Nobody wr wx)
          case first =>
            rcases hk with rfl | rfl
            · have hjl := (HJ1.out rfl).1
              have HD2 : Hid (decide (q = jl) = false) := Lib.hid (decide_eq_false (by omega))
              clear hjl
              go_wp2_with fail
              go_meet
              exact ⟨by rw [HD2.out]; rfl, Only.refl _ _⟩
            · obtain ⟨hjf, hij⟩ := HJ2.out rfl
              subst hij
              clear hjf
              by_cases hqj : q = jl
              · have HD2 : Hid (decide (q = jl) = true) := Lib.hid (decide_eq_true hqj)
                have hqI2 : (q : Int) = (jl : Int) := by omega
                clear hqj
                rw [← hqI2] at p1
                clear hqI2
                go_wp2_with fail
                go_meet
                exact ⟨by rw [HD2.out]; rfl, Only.refl _ _⟩
              · have HD2 : Hid (decide (q = jl) = false) := Lib.hid (decide_eq_false hqj)
                have hqI2 : ¬ (q : Int) = (jl : Int) := by omega
                have hqB2 : ((q : Int) == (jl : Int)) = false := by simp; omega
                have HQC : Hid (((q : Int) != (jl : Int)) = true) := Lib.hid (by rw [bne, hqB2]; rfl)
                go_wp2_with fail
                go_meet
                exact ⟨by rw [HD2.out, HQC.out]; rfl, Only.refl _ _⟩
          case rest =>
          obtain ⟨rfl, hox⟩ := hcut
          have HOC : Hid (Only (fun b => b = K) W3 wc) := Lib.hid (HOW.out.trans (hox.mono (fun _ x => x.elim)))
          have HOC2 : Hid (Only (fun b => b = K) wm wc) := Lib.hid (HON2.out.trans (hox.mono (fun _ x => x.elim)))
          have HBC : Hid (Blk wc K 25 #[.int .i64 v.k, .int .i64 v.i, .int .i64 v.s, .string v.t, .slice A2 m2 c2, .slice A m cc]) := Lib.hid (hox.blk HBK2.out (fun x => x))
          have HRC : Hid (wc.ownsRow M 25 6 (.slice A2 m2 c2) m2 (cells VC.vals (rm (V.take q) jl))) := Lib.hid (hox.row HRW2.out (fun _ _ x => x))
          clear hox b0 b1 b2 b3 b4 b5 p0 p1 p2
          by_cases hqj : q = jl
          · have hd : decide (q = jl) = true := decide_eq_true hqj
            have HE : Hid (rm (V.take (q + 1)) jl = rm (V.take q) jl) := Lib.hid (by rw [hqj]; exact rm_same)
            rw [hd]
            clear hd hqj
            go_wp2_with fail
            go_roundw
            case rel => first | exact ⟨q + 1, m2, A2, c2, by go_num, by omega, Lib.hid (by rw [HE.out]; exact HM2.out), HBC, Lib.hid (by rw [HE.out]; exact HRC.out), HOC2⟩ | ((repeat apply Exists.intro); exact ⟨⟨q + 1, m2, A2, c2, by go_num, by omega, Lib.hid (by rw [HE.out]; exact HM2.out), HBC, Lib.hid (by rw [HE.out]; exact HRC.out), HOC2⟩, rfl⟩)
            case measure => simp [intOf]; omega
          · have hd : decide (q = jl) = false := decide_eq_false hqj
            have HQJ := Lib.hid hqj
            rw [hd]
            clear hd hqj
            go_upto_region 21 with fail
            obtain ⟨⟨b0, b1, b2, b3, b4, b5⟩, p0, p1, p2⟩ := HSB.out wc HOC.out
            have HFR := HVW.out wc HOC.out
            rw [HADF.out] at HFR b4
            obtain ⟨a0, a1, a2, a3, a4, a5⟩ := HFR.vat HOq.out
            clear HFR b0 b1 b2 b3 b5 p0 p1 p2
            have hk4 : wc.cell? ⟨K, 4, none⟩ = some (.slice A2 m2 c2) := HBC.out.cell 4
            have hk4a : (wc.alloc (.cells #[.int .i64 o.k, .int .i64 o.i, .int .i64 o.s, .string o.t, .slice o.la o.ln o.lc, .slice o.fa o.fn o.fc] 25)).cell? ⟨K, 4, none⟩ = some (.slice A2 m2 c2) := (HBC.out.alloc _).cell 4
            have HLT := Lib.hid HRC.out.lt
            have HRWa : Hid (∀ w', Only Nobody wc w' → w'.ownsRow M 25 6 (.slice A2 m2 c2) m2 (cells VC.vals (rm (V.take q) jl))) := Lib.hid fun w' h => h.row HRC.out (fun _ _ x => x)
            have HRD : Hid (Reads (wc.drew.alloc (.cells #[.int .i64 o.k, .int .i64 o.i, .int .i64 o.s, .string o.t, .slice o.la o.ln o.lc, .slice o.fa o.fn o.fc] 25)) (wc.drew.heap.size + 1) 6 (some ⟨wc.drew.heap.size, 0, none⟩) 1 o.vals) := Lib.hid (reads_alloc wc.drew 25 #[.int .i64 o.k, .int .i64 o.i, .int .i64 o.s, .string o.t, .slice o.la o.ln o.lc, .slice o.fa o.fn o.fc] 6 1 rfl)
            have HU := Lib.hid (one_v o)
            have HKC : Hid (M ≤ wc.heap.size) := Lib.hid (by rw [← HMMm.out]; exact HOC2.out.size)
            have HBB : Hid (M ≤ (wc.drew.alloc (.cells #[.int .i64 o.k, .int .i64 o.i, .int .i64 o.s, .string o.t, .slice o.la o.ln o.lc, .slice o.fa o.fn o.fc] 25)).heap.size) := Lib.hid (by have := HKC.out; simp; omega)
            have hmq : m2 ≤ q := by rw [HM2.out]; exact rm_le
            have HBY : Hid (m2 + 1 ≤ maxLen ∧ (m2 + 1) * 88 ≤ 140737488355328) := Lib.hid (by unfold maxLen; omega)
            go_region_law (first
              | (refine step_append_any _ (by rfl) (.tmp 111) (.tmp 117) 22 (by rfl) M 25 i0 _ 6 88 Tryz.underlying22 hi0 hz0 hz1 hz2 (by rfl) (by omega) (.slice A2 m2 c2) m2 (cells VC.vals (rm (V.take q) jl)) (by rfl) (HRWa.out _ (by repeat (first | with_reducible exact Only.refl _ _ | with_reducible refine Only.drew ?_ | with_reducible refine Only.alloc ?_ _))) _ (some ⟨wc.drew.heap.size, 0, none⟩) 1 1 o.vals (by rfl) HRD.out HU.out HBY.out.1 HBY.out.2 HBB.out ?_; intro v4 w4 hown4 hgrow4 hat4; obtain ⟨A4, c4, rfl⟩ := own_form hown4; have HOW4 := Lib.hid hown4; have HG4 := Lib.hid hgrow4; have HB4 : Hid (Blk w4 K 25 #[.int .i64 v.k, .int .i64 v.i, .int .i64 v.s, .string v.t, .slice A2 m2 c2, .slice A m cc]) := Lib.hid ((Only.of_grown hgrow4 (F := fun b => Value.ownBlock (.slice A2 m2 c2) = some b) (fun b e => e)).blk (HBC.out.drew.alloc _) (fun e => (by have := (HLT.out K e).1; omega))); have hk5' : w4.cell? ⟨K, 4, none⟩ = some (.slice A2 m2 c2) := HB4.out.cell 4; have hkf5 : w4.frozen? ⟨K, 4, none⟩ = false := HB4.out.frozen 4; clear hown4 hgrow4 hat4))
            all_goals
              have HB6 : Hid (Blk (w4.setCell ⟨K, 4, none⟩ (.slice A4 (m2 + 1) c4)) K 25 #[.int .i64 v.k, .int .i64 v.i, .int .i64 v.s, .string v.t, .slice A4 (m2 + 1) c4, .slice A m cc]) := Lib.hid (HB4.out.set_ 4 _)
              have HR6 : Hid ((w4.setCell ⟨K, 4, none⟩ (.slice A4 (m2 + 1) c4)).ownsRow M 25 6 (.slice A4 (m2 + 1) c4) (m2 + 1) (cells VC.vals (rm (V.take (q + 1)) jl))) := Lib.hid (by
                have h4 := HOW4.out
                rw [rm_cells HOq.out HQJ.out] at h4
                exact ((Only.refl (fun b => b = K) w4).setCell (p := ⟨K, 4, none⟩) (.inl rfl) _).row h4 (fun b e e2 => by have := (h4.lt b e).1; omega))
              have HO6 : Hid (Only (fun b => b = K) wm (w4.setCell ⟨K, 4, none⟩ (.slice A4 (m2 + 1) c4))) := Lib.hid (((HOC2.out.drew.alloc _).trans_more (Only.of_grown HG4.out (fun b e => .inr (by rw [HMMm.out]; exact (HLT.out b e).1)))).setCell (p := ⟨K, 4, none⟩) (.inl rfl) _)
              have HM6 : Hid (m2 + 1 = (rm (V.take (q + 1)) jl).length) := Lib.hid (by rw [rm_next HOq.out HQJ.out, List.length_append, ← HM2.out]; rfl)
              go_wp2_with fail
              go_roundw
              case rel => first | exact ⟨q + 1, m2 + 1, A4, c4, by go_num, by omega, HM6, HB6, HR6, HO6⟩ | ((repeat apply Exists.intro); exact ⟨⟨q + 1, m2 + 1, A4, c4, by go_num, by omega, HM6, HB6, HR6, HO6⟩, rfl⟩)
              case measure => simp [intOf]; omega
        · obtain rfl : q = v.ln := by omega
          have hr2 : wr.ownsRow M 25 6 (.slice A2 m2 c2) m2 (cells VC.vals (rm V jl)) := by have h := HRW2.out; rw [List.take_of_length_le (by rw [HV.out.len]; exact Nat.le_refl _)] at h; exact h
          have HRL2 := Lib.hid (rowv_low (B := K + 1) hr2 (by omega))
          have HRL1 := Lib.hid (rowf_low (B := K + 1) (F := rm F jf) (HON2.out.row HR1m.out (fun b e e2 => by have := (HR1m.out.lt b e).1; omega)) (Nat.le_refl _))
          have HBN := Lib.hid (HBR.out wr HOW.out)
          have HPOST : Hid (∀ wE, Only (fun b => b = N + 1) wr wE → RepPost S n (delT T ⟨k, i, nm⟩) w (.returned (.agg #[.int .i64 v.k, .int .i64 v.i, .int .i64 v.s, .string v.t, .slice A2 m2 c2, .slice A m cc])) wE) := Lib.hid fun wE hE => by
            have hKN := HKN.out
            have hOE : Only Nobody w wE := (HOA3.out.trans_more (HOW.out.mono (fun b e => .inr (by rw [HN.out]; omega)))).trans_more (hE.mono (fun b e => .inr (by rw [HN.out]; omega)))
            refine ⟨⟨v.k, v.i, v.s, v.t, A2, m2, c2, A, m, cc⟩, rfl, ?_, hOE⟩
            rw [HDT.out]
            exact delB_post HN.out HEQ.out HA.out HB.out ⟨(HRL1.out.1.keep hE (fun b hb e => by have h7 : K + 1 ≤ b := hb; omega)).mono (fun b _ hb => by have h7 : K + 1 ≤ b := hb; show N ≤ b; omega), HRL1.out.2⟩ ⟨(HRL2.out.1.keep hE (fun b hb e => by have h7 : K + 1 ≤ b := hb; omega)).mono (fun b _ hb => by have h7 : K + 1 ≤ b := hb; show N ≤ b; omega), HRL2.out.2⟩ (hOE.mono (fun _ x => x.elim))
          clear b0 b1 b2 b3 b5 p0 p1 p2 hr2
          have o0 : wr.cell? ⟨K, 0, none⟩ = some (.int .i64 v.k) := HBK2.out.cell 0
          have o1 : wr.cell? ⟨K, 1, none⟩ = some (.int .i64 v.i) := HBK2.out.cell 1
          have o2 : wr.cell? ⟨K, 2, none⟩ = some (.int .i64 v.s) := HBK2.out.cell 2
          have o3 : wr.cell? ⟨K, 3, none⟩ = some (.string v.t) := HBK2.out.cell 3
          have o4 : wr.cell? ⟨K, 4, none⟩ = some (.slice A2 m2 c2) := HBK2.out.cell 4
          have o5 : wr.cell? ⟨K, 5, none⟩ = some (.slice A m cc) := HBK2.out.cell 5
          have r0 : wr.cell? ⟨N + 1, 0, none⟩ = some (.int .i64 0) := (HBN.out).cell 0
          have rf0 : wr.frozen? ⟨N + 1, 0, none⟩ = false := (HBN.out).frozen 0
          have r1 : wr.cell? ⟨N + 1, 1, none⟩ = some (.int .i64 0) := (HBN.out).cell 1
          have rf1 : wr.frozen? ⟨N + 1, 1, none⟩ = false := (HBN.out).frozen 1
          have r2 : wr.cell? ⟨N + 1, 2, none⟩ = some (.int .i64 0) := (HBN.out).cell 2
          have rf2 : wr.frozen? ⟨N + 1, 2, none⟩ = false := (HBN.out).frozen 2
          have r3 : wr.cell? ⟨N + 1, 3, none⟩ = some (.string ⟨#[]⟩) := (HBN.out).cell 3
          have rf3 : wr.frozen? ⟨N + 1, 3, none⟩ = false := (HBN.out).frozen 3
          have r4 : wr.cell? ⟨N + 1, 4, none⟩ = some (.slice none 0 0) := (HBN.out).cell 4
          have rf4 : wr.frozen? ⟨N + 1, 4, none⟩ = false := (HBN.out).frozen 4
          have r5 : wr.cell? ⟨N + 1, 5, none⟩ = some (.slice none 0 0) := (HBN.out).cell 5
          have rf5 : wr.frozen? ⟨N + 1, 5, none⟩ = false := (HBN.out).frozen 5
          go_wp2_with fail
          exact bodyPost_ret (v := .agg #[.int .i64 v.k, .int .i64 v.i, .int .i64 v.s, .string v.t, .slice A2 m2 c2, .slice A m cc]) (by simp [results, Tryz.results13, go_sem, r0, r1, r2, r3, r4, r5]) rfl (HPOST.out _ (by repeat (first | with_reducible exact Only.refl _ _ | with_reducible refine Only.drew ?_ | with_reducible refine Only.alloc ?_ _ | with_reducible refine Only.setCell ?_ (Or.inl ?_) _ | exact rfl | exact Or.inl rfl | exact Or.inr (Or.inl rfl) | exact Or.inr (Or.inr rfl) | exact Or.inr rfl)))

end Go.Proofs.YtdccckoelnnnoaaGreatDoor
