/- Path: the reference's Get. -/
import Derived.Test.YtdccckoelnnnoaaDoorFiT
namespace Go.Proofs.YtdccckoelnnnoaaDoor
open Go.RowKit
attribute [local go_sem ↓] Go.wp_at_zero Go.wp_at_succ

/-- The reference's Get: the value shares the memory of the one that was given. -/
def RGetPost (n : Nat) (T : VT) (L : List Pt) (w : World) (e : Ending) (w' : World) : Prop :=
  ∃ v : VC, e = .returned (.tuple #[.agg #[.int .i64 v.k, .int .i64 v.i, .int .i64 v.s, .string v.t, .slice v.la v.ln v.lc, .slice v.fa v.fn v.fc], .int .i64 (findE T L)]) ∧ VAt w' Any_ (n + 1) v (getV T L) ∧ Only Nobody w w'
theorem rget_err {n : Nat} {T : VT} {L : List Pt} {w w' : World} {er : Int} (h : findE T L = er) (he : er ≠ 0) (ho : Only Nobody w w') : RGetPost n T L w (.returned (.tuple #[.agg #[.int .i64 0, .int .i64 0, .int .i64 0, .string ⟨#[]⟩, .slice none 0 0, .slice none 0 0], .int .i64 er])) w' :=
  ⟨zeroC, by rw [h]; rfl, by unfold getV; rw [h, if_neg he]; exact zero_at _ _ _, ho⟩
set_option maxRecDepth 100000 in
set_option maxHeartbeats 8000000 in
theorem rget_any (v : VC) (T : VT) (S : Nat → Prop) (n : Nat) (A : Option Addr) (m c : Nat) (L : List Pt) (w : World) (hsz : Fit T L) (h : VAt w S n v T) (ha : Pts w A m L) (hm : m ≤ 1000) : Calls Tryd.prog 16 #[.agg #[.int .i64 v.k, .int .i64 v.i, .int .i64 v.s, .string v.t, .slice v.la v.ln v.lc, .slice v.fa v.fn v.fc], .slice A m c] w (RGetPost n T L w) := by
  have HV : Hid (VAt w (fun b => b < w.heap.size) n v T) := Lib.hid (h.mono fun b hb _ => hb)
  have HP := Lib.hid ha
  have HSZ := Lib.hid hsz
  have HEV : Hid (∀ w', Only Nobody w w' → Calls Tryd.prog 39 #[.slice A m c] w' fun e w'' => e = .returned (.bool (everyL L)) ∧ Only Nobody w' w'') := Lib.hid fun w' ho => revery_any A m c L hm w' (ha.same ho)
  have HOA : Hid (Only Nobody w ((w.alloc (.cells #[.int .i64 v.k, .int .i64 v.i, .int .i64 v.s, .string v.t, .slice v.la v.ln v.lc, .slice v.fa v.fn v.fc] 25)).alloc (.cells #[.int .i64 0, .int .i64 0, .int .i64 0, .string ⟨#[]⟩, .slice none 0 0, .slice none 0 0] 25))) := Lib.hid (((Only.refl _ _).alloc _).alloc _)
  clear h ha hsz
  go_enter Tryd.func16, Tryd.ntmps16
  go_wp2_with fail
  refine (rtxt_any A m c L _ (HP.out.same HOA.out)).mono ?_
  obtain ⟨B, HB⟩ : ∃ B, Hid (okL L = B) := ⟨_, Lib.hid rfl⟩
  rintro e w1 ⟨s, rfl, hs, ho⟩
  rw [HB.out]
  have HO1 := Lib.hid (HOA.out.trans ho)
  have HR1 : Hid (Blk w1 (w.heap.size + 1) 25 #[.int .i64 0, .int .i64 0, .int .i64 0, .string ⟨#[]⟩, .slice none 0 0, .slice none 0 0]) := Lib.hid (ho.blk (by
    have := Blk.new (w.alloc (.cells #[.int .i64 v.k, .int .i64 v.i, .int .i64 v.s, .string v.t, .slice v.la v.ln v.lc, .slice v.fa v.fn v.fc] 25)) 25 #[.int .i64 0, .int .i64 0, .int .i64 0, .string ⟨#[]⟩, .slice none 0 0, .slice none 0 0]
    simpa using this) (fun x => x))
  have HVB1 : Hid (Blk w1 w.heap.size 25 #[.int .i64 v.k, .int .i64 v.i, .int .i64 v.s, .string v.t, .slice v.la v.ln v.lc, .slice v.fa v.fn v.fc]) := Lib.hid (ho.blk (((Only.refl Nobody _).alloc _).blk (Blk.new w 25 #[.int .i64 v.k, .int .i64 v.i, .int .i64 v.s, .string v.t, .slice v.la v.ln v.lc, .slice v.fa v.fn v.fc]) (fun x => x)) (fun x => x))
  have HSZ1 : Hid (w.heap.size + 2 ≤ w1.heap.size) := Lib.hid (by have := ho.size; simpa using this)
  clear ho hs HOA
  have r0 : w1.cell? ⟨w.heap.size + 1, 0, none⟩ = some (.int .i64 0) := HR1.out.cell 0
  have f0 : w1.frozen? ⟨w.heap.size + 1, 0, none⟩ = false := HR1.out.frozen 0
  have r1 : w1.cell? ⟨w.heap.size + 1, 1, none⟩ = some (.int .i64 0) := HR1.out.cell 1
  have f1 : w1.frozen? ⟨w.heap.size + 1, 1, none⟩ = false := HR1.out.frozen 1
  have r2 : w1.cell? ⟨w.heap.size + 1, 2, none⟩ = some (.int .i64 0) := HR1.out.cell 2
  have f2 : w1.frozen? ⟨w.heap.size + 1, 2, none⟩ = false := HR1.out.frozen 2
  have r3 : w1.cell? ⟨w.heap.size + 1, 3, none⟩ = some (.string ⟨#[]⟩) := HR1.out.cell 3
  have f3 : w1.frozen? ⟨w.heap.size + 1, 3, none⟩ = false := HR1.out.frozen 3
  have r4 : w1.cell? ⟨w.heap.size + 1, 4, none⟩ = some (.slice none 0 0) := HR1.out.cell 4
  have f4 : w1.frozen? ⟨w.heap.size + 1, 4, none⟩ = false := HR1.out.frozen 4
  have r5 : w1.cell? ⟨w.heap.size + 1, 5, none⟩ = some (.slice none 0 0) := HR1.out.cell 5
  have f5 : w1.frozen? ⟨w.heap.size + 1, 5, none⟩ = false := HR1.out.frozen 5
  cases B with
  | false =>
    have HF1 : Hid (findE T L = 3) := Lib.hid (by unfold findE; rw [chkE_no (by rw [HB.out]; decide)]; rfl)
    have HPOST : Hid (∀ wE, Only (fun b => b = w.heap.size + 1) w1 wE → RGetPost n T L w (.returned (.tuple #[.agg #[.int .i64 0, .int .i64 0, .int .i64 0, .string ⟨#[]⟩, .slice none 0 0, .slice none 0 0], .int .i64 3])) wE) := Lib.hid fun wE hE => rget_err HF1.out (by decide) (HO1.out.trans_more (hE.mono (fun b e => .inr (by omega))))
    go_wp2_with fail
    exact bodyPost_ret (v := .tuple #[.agg #[.int .i64 0, .int .i64 0, .int .i64 0, .string ⟨#[]⟩, .slice none 0 0, .slice none 0 0], .int .i64 3]) (by simp [results, Tryd.results16, go_sem, r0, r1, r2, r3, r4, r5]) rfl (HPOST.out _ (((((((Only.refl (fun b => b = w.heap.size + 1) w1).setCell (p := ⟨w.heap.size + 1, 0, none⟩) (.inl rfl) _).setCell (p := ⟨w.heap.size + 1, 1, none⟩) (.inl rfl) _).setCell (p := ⟨w.heap.size + 1, 2, none⟩) (.inl rfl) _).setCell (p := ⟨w.heap.size + 1, 3, none⟩) (.inl rfl) _).setCell (p := ⟨w.heap.size + 1, 4, none⟩) (.inl rfl) _).setCell (p := ⟨w.heap.size + 1, 5, none⟩) (.inl rfl) _))
  | true =>
    have HE : Hid (chkE L = 0) := Lib.hid (chkE_ok HB.out)
    have HFI := Lib.hid (rfind_any v T _ n A m c L w1 HSZ.out (HV.out.same HO1.out) (HP.out.same HO1.out) hm HB.out)
    have b0 : w1.cell? ⟨w.heap.size, 0, none⟩ = some (.int .i64 v.k) := HVB1.out.cell 0
    have b1 : w1.cell? ⟨w.heap.size, 1, none⟩ = some (.int .i64 v.i) := HVB1.out.cell 1
    have b2 : w1.cell? ⟨w.heap.size, 2, none⟩ = some (.int .i64 v.s) := HVB1.out.cell 2
    have b3 : w1.cell? ⟨w.heap.size, 3, none⟩ = some (.string v.t) := HVB1.out.cell 3
    have b4 : w1.cell? ⟨w.heap.size, 4, none⟩ = some (.slice v.la v.ln v.lc) := HVB1.out.cell 4
    have b5 : w1.cell? ⟨w.heap.size, 5, none⟩ = some (.slice v.fa v.fn v.fc) := HVB1.out.cell 5
    go_wp2_with fail
    refine HFI.out.mono ?_
    rintro e w2 ⟨A2, m2, c2, V2, rfl, hmc, hrow, hall, ho⟩
    have HO2 := Lib.hid (HO1.out.trans ho)
    have HR2 := Lib.hid (ho.blk HR1.out (fun x => x))
    have HMC := Lib.hid hmc
    have HROW := Lib.hid hrow
    have HALL := Lib.hid hall
    clear ho hmc hrow hall b0 b1 b2 b3 b4 b5 r0 r1 r2 r3 r4 r5 f0 f1 f2 f3 f4 f5 HR1 HVB1
    have r0 : w2.cell? ⟨w.heap.size + 1, 0, none⟩ = some (.int .i64 0) := HR2.out.cell 0
    have f0 : w2.frozen? ⟨w.heap.size + 1, 0, none⟩ = false := HR2.out.frozen 0
    have r1 : w2.cell? ⟨w.heap.size + 1, 1, none⟩ = some (.int .i64 0) := HR2.out.cell 1
    have f1 : w2.frozen? ⟨w.heap.size + 1, 1, none⟩ = false := HR2.out.frozen 1
    have r2 : w2.cell? ⟨w.heap.size + 1, 2, none⟩ = some (.int .i64 0) := HR2.out.cell 2
    have f2 : w2.frozen? ⟨w.heap.size + 1, 2, none⟩ = false := HR2.out.frozen 2
    have r3 : w2.cell? ⟨w.heap.size + 1, 3, none⟩ = some (.string ⟨#[]⟩) := HR2.out.cell 3
    have f3 : w2.frozen? ⟨w.heap.size + 1, 3, none⟩ = false := HR2.out.frozen 3
    have r4 : w2.cell? ⟨w.heap.size + 1, 4, none⟩ = some (.slice none 0 0) := HR2.out.cell 4
    have f4 : w2.frozen? ⟨w.heap.size + 1, 4, none⟩ = false := HR2.out.frozen 4
    have r5 : w2.cell? ⟨w.heap.size + 1, 5, none⟩ = some (.slice none 0 0) := HR2.out.cell 5
    have f5 : w2.frozen? ⟨w.heap.size + 1, 5, none⟩ = false := HR2.out.frozen 5
    obtain ⟨R, HR⟩ : ∃ R, Hid (findT [T] L = R) := ⟨_, Lib.hid rfl⟩
    rw [HR.out]
    cases R with
    | none =>
      have HF1 : Hid (findE T L = 22) := Lib.hid (by unfold findE; rw [HE.out, HR.out]; rfl)
      rw [show (none : Option (List VT)).isSome = false from rfl]
      have HPOST : Hid (∀ wE, Only (fun b => b = w.heap.size + 1) w2 wE → RGetPost n T L w (.returned (.tuple #[.agg #[.int .i64 0, .int .i64 0, .int .i64 0, .string ⟨#[]⟩, .slice none 0 0, .slice none 0 0], .int .i64 22])) wE) := Lib.hid fun wE hE => rget_err HF1.out (by decide) (HO2.out.trans_more (hE.mono (fun b e => .inr (by omega))))
      go_wp2_with fail
      exact bodyPost_ret (v := .tuple #[.agg #[.int .i64 0, .int .i64 0, .int .i64 0, .string ⟨#[]⟩, .slice none 0 0, .slice none 0 0], .int .i64 22]) (by simp [results, Tryd.results16, go_sem, r0, r1, r2, r3, r4, r5]) rfl (HPOST.out _ (((((((Only.refl (fun b => b = w.heap.size + 1) w2).setCell (p := ⟨w.heap.size + 1, 0, none⟩) (.inl rfl) _).setCell (p := ⟨w.heap.size + 1, 1, none⟩) (.inl rfl) _).setCell (p := ⟨w.heap.size + 1, 2, none⟩) (.inl rfl) _).setCell (p := ⟨w.heap.size + 1, 3, none⟩) (.inl rfl) _).setCell (p := ⟨w.heap.size + 1, 4, none⟩) (.inl rfl) _).setCell (p := ⟨w.heap.size + 1, 5, none⟩) (.inl rfl) _))
    | some Ts =>
      have HFR : Hid (findR T L = Ts) := Lib.hid (by unfold findR; rw [HE.out, HR.out]; rfl)
      have HAL : Hid (All2 (VAt w2 (fun b => b < w.heap.size ∧ b < w1.heap.size) n) V2 Ts) := Lib.hid (by have := HALL.out; rw [HR.out] at this; exact this)
      have HTL : Hid (Ts.length = m2) := Lib.hid (by rw [← HAL.out.1, HROW.out.len])
      rw [show (some Ts : Option (List VT)).isSome = true from rfl]
      obtain ⟨EV, HEL⟩ : ∃ EV, Hid (everyL L = EV) := ⟨_, Lib.hid rfl⟩
      go_wp2_with fail
      refine (HEV.out _ HO2.out).mono ?_
      rw [HEL.out]
      rintro e w3 ⟨rfl, ho⟩
      have HO3 := Lib.hid (HO2.out.trans ho)
      have HR3 := Lib.hid (ho.blk HR2.out (fun x => x))
      have HROW := Lib.hid (HROW.out.same ho)
      have HAL : Hid (All2 (VAt w3 (fun b => b < w.heap.size ∧ b < w1.heap.size) n) V2 Ts) := Lib.hid (HAL.out.imp fun _ _ h => h.same ho)
      clear ho r0 r1 r2 r3 r4 r5 f0 f1 f2 f3 f4 f5 HR2 HALL
      have r0 : w3.cell? ⟨w.heap.size + 1, 0, none⟩ = some (.int .i64 0) := HR3.out.cell 0
      have f0 : w3.frozen? ⟨w.heap.size + 1, 0, none⟩ = false := HR3.out.frozen 0
      have r1 : w3.cell? ⟨w.heap.size + 1, 1, none⟩ = some (.int .i64 0) := HR3.out.cell 1
      have f1 : w3.frozen? ⟨w.heap.size + 1, 1, none⟩ = false := HR3.out.frozen 1
      have r2 : w3.cell? ⟨w.heap.size + 1, 2, none⟩ = some (.int .i64 0) := HR3.out.cell 2
      have f2 : w3.frozen? ⟨w.heap.size + 1, 2, none⟩ = false := HR3.out.frozen 2
      have r3 : w3.cell? ⟨w.heap.size + 1, 3, none⟩ = some (.string ⟨#[]⟩) := HR3.out.cell 3
      have f3 : w3.frozen? ⟨w.heap.size + 1, 3, none⟩ = false := HR3.out.frozen 3
      have r4 : w3.cell? ⟨w.heap.size + 1, 4, none⟩ = some (.slice none 0 0) := HR3.out.cell 4
      have f4 : w3.frozen? ⟨w.heap.size + 1, 4, none⟩ = false := HR3.out.frozen 4
      have r5 : w3.cell? ⟨w.heap.size + 1, 5, none⟩ = some (.slice none 0 0) := HR3.out.cell 5
      have f5 : w3.frozen? ⟨w.heap.size + 1, 5, none⟩ = false := HR3.out.frozen 5
      cases EV with
      | true =>
        have HFE : Hid (findE T L = 0) := Lib.hid (by unfold findE; rw [HE.out, HR.out, HEL.out]; simp)
        have HPOST : Hid (∀ wE, Only (fun b => b = w.heap.size + 1) w3 wE → RGetPost n T L w (.returned (.tuple #[.agg #[.int .i64 8, .int .i64 0, .int .i64 0, .string ⟨#[]⟩, .slice A2 m2 c2, .slice none 0 0], .int .i64 0])) wE) := Lib.hid fun wE hE => by
          refine ⟨⟨8, 0, 0, ⟨#[]⟩, A2, m2, c2, none, 0, 0⟩, by rw [HFE.out], ?_, HO3.out.trans_more (hE.mono (fun b e => .inr (by omega)))⟩
          unfold getV
          rw [HFE.out, if_pos rfl, if_pos HEL.out, HFR.out]
          have h1 := HROW.out.keep hE (fun b hb e => by have := HSZ1.out; omega)
          exact list_at ⟨V2, h1.mono (fun _ _ _ => trivial), HAL.out.imp fun _ _ h => (h.keep hE (fun b hb e => by have := hb.1; omega)).mono fun _ _ _ => trivial⟩ HMC.out
        go_wp2_with fail
        exact bodyPost_ret (v := .tuple #[.agg #[.int .i64 8, .int .i64 0, .int .i64 0, .string ⟨#[]⟩, .slice A2 m2 c2, .slice none 0 0], .int .i64 0]) (by simp [results, Tryd.results16, go_sem, r0, r1, r2, r3, r4, r5]) rfl (HPOST.out _ (((((((Only.refl (fun b => b = w.heap.size + 1) w3).setCell (p := ⟨w.heap.size + 1, 0, none⟩) (.inl rfl) _).setCell (p := ⟨w.heap.size + 1, 1, none⟩) (.inl rfl) _).setCell (p := ⟨w.heap.size + 1, 2, none⟩) (.inl rfl) _).setCell (p := ⟨w.heap.size + 1, 3, none⟩) (.inl rfl) _).setCell (p := ⟨w.heap.size + 1, 4, none⟩) (.inl rfl) _).setCell (p := ⟨w.heap.size + 1, 5, none⟩) (.inl rfl) _))
      | false =>
        by_cases hz : m2 = 0
        · have hnil : Ts = [] := List.eq_nil_of_length_eq_zero (by rw [HTL.out]; exact hz)
          have HF1 : Hid (findE T L = 19) := Lib.hid (by unfold findE; rw [HE.out, HR.out, hnil, HEL.out]; rfl)
          subst hz
          clear hnil
          have HPOST : Hid (∀ wE, Only (fun b => b = w.heap.size + 1) w3 wE → RGetPost n T L w (.returned (.tuple #[.agg #[.int .i64 0, .int .i64 0, .int .i64 0, .string ⟨#[]⟩, .slice none 0 0, .slice none 0 0], .int .i64 19])) wE) := Lib.hid fun wE hE => rget_err HF1.out (by decide) (HO3.out.trans_more (hE.mono (fun b e => .inr (by omega))))
          go_wp2_with fail
          exact bodyPost_ret (v := .tuple #[.agg #[.int .i64 0, .int .i64 0, .int .i64 0, .string ⟨#[]⟩, .slice none 0 0, .slice none 0 0], .int .i64 19]) (by simp [results, Tryd.results16, go_sem, r0, r1, r2, r3, r4, r5]) rfl (HPOST.out _ (((((((Only.refl (fun b => b = w.heap.size + 1) w3).setCell (p := ⟨w.heap.size + 1, 0, none⟩) (.inl rfl) _).setCell (p := ⟨w.heap.size + 1, 1, none⟩) (.inl rfl) _).setCell (p := ⟨w.heap.size + 1, 2, none⟩) (.inl rfl) _).setCell (p := ⟨w.heap.size + 1, 3, none⟩) (.inl rfl) _).setCell (p := ⟨w.heap.size + 1, 4, none⟩) (.inl rfl) _).setCell (p := ⟨w.heap.size + 1, 5, none⟩) (.inl rfl) _))
        · have hmz : ((m2 : Int) == 0) = false := by simp; omega
          have hn0 : (0 : Int) < (m2 : Int) := by omega
          have HFE : Hid (findE T L = 0) := Lib.hid (by
            have hne : ¬ Ts = [] := fun e => hz (by rw [← HTL.out, e]; rfl)
            unfold findE; rw [HE.out, HR.out]; simp [hne])
          obtain ⟨ad, rfl⟩ := HROW.out.some_ (by omega)
          obtain ⟨o, ho⟩ := HROW.out.get (i := 0) (by omega)
          obtain ⟨x, hx, hax⟩ := HAL.out.get ho
          obtain ⟨a0, a1, a2, a3, a4, a5⟩ := HROW.out.vat ho
          rw [Nat.zero_mul, addr_zero] at a0 a1 a2 a3 a4 a5
          have HPOST : Hid (∀ wE, Only (fun b => b = w.heap.size + 1) w3 wE → RGetPost n T L w (.returned (.tuple #[.agg #[.int .i64 o.k, .int .i64 o.i, .int .i64 o.s, .string o.t, .slice o.la o.ln o.lc, .slice o.fa o.fn o.fc], .int .i64 0])) wE) := Lib.hid fun wE hE => by
            refine ⟨o, by rw [HFE.out], ?_, HO3.out.trans_more (hE.mono (fun b e => .inr (by omega)))⟩
            unfold getV
            rw [HFE.out, if_pos rfl, if_neg (by rw [HEL.out]; decide), HFR.out]
            have hd : Ts.headD .zero = x := by
              match Ts, hx with
              | a :: l, hx => simp at hx; rw [hx]; rfl
            rw [hd]
            exact ((hax.keep hE (fun b hb e => by have := hb.1; omega)).mono fun b _ x => trivial).up
          have HHX := Lib.hid hax
          clear ho hx hax hz
          go_wp2_with fail
          exact bodyPost_ret (v := .tuple #[.agg #[.int .i64 o.k, .int .i64 o.i, .int .i64 o.s, .string o.t, .slice o.la o.ln o.lc, .slice o.fa o.fn o.fc], .int .i64 0]) (by simp [results, Tryd.results16, go_sem, r0, r1, r2, r3, r4, r5]) rfl (HPOST.out _ (((((((Only.refl (fun b => b = w.heap.size + 1) w3).setCell (p := ⟨w.heap.size + 1, 0, none⟩) (.inl rfl) _).setCell (p := ⟨w.heap.size + 1, 1, none⟩) (.inl rfl) _).setCell (p := ⟨w.heap.size + 1, 2, none⟩) (.inl rfl) _).setCell (p := ⟨w.heap.size + 1, 3, none⟩) (.inl rfl) _).setCell (p := ⟨w.heap.size + 1, 4, none⟩) (.inl rfl) _).setCell (p := ⟨w.heap.size + 1, 5, none⟩) (.inl rfl) _))
end Go.Proofs.YtdccckoelnnnoaaDoor
