/- Network: agree, for a send, a step. -/
import Derived.Test.YtbfkmdcjamillaaLkD
import Derived.Test.YtbfkmdcjamillaaPerf
namespace Go.Proofs.Ytbfkmdcjamillaa
open Go.RowKit
attribute [local go_sem ↓] Go.wp_at_zero Go.wp_at_succ

def AgPost (w0 w : World) (Z : Nat → Prop) (N M : Nat) (q : Nat) (X : List UInt8) (e : Ending) (w' : World) : Prop :=
  e = .returned (.bool true) ∧ ∃ S' P' L', PQ w0 w' Z N S' M L' ∧ Run S' P' L' q ∧ Only (fun k => ¬ Z k) w w' ∧ L'.script = X
theorem msend_script (L : LinkS) (a b c : ByteArray) : (mSend L a b c).2.script = L.script := by
  unfold mSend
  repeat' split
  all_goals rfl
/-- The block of the Op, and both behind it. -/
theorem op_box {w0 w : World} {Z : Nat → Prop} {N M : Nat} {S : NetS} {L : LinkS} (h : PQ w0 w Z N S M L) (hz : ∀ k, Z k → k < w.heap.size) (o : Op4) :
    PQ w0 (w.alloc (.cells #[.int .u8 (o.kind.toNat : Int), .int .u8 (o.from_.toNat : Int), .int .u8 (o.to_.toNat : Int), .int .u8 (o.data.toNat : Int)] 33)) (fun k => Z k ∨ k = w.heap.size) N S M L ∧ ¬ Z w.heap.size :=
  ⟨h.more ((Only.refl _ _).alloc _) (fun k hk => hk.elim .inl (fun e => .inr ⟨by omega, by rw [e]; simp⟩)), fun x => by have := hz _ x; omega⟩

set_option maxRecDepth 100000 in
set_option maxHeartbeats 4000000 in
theorem agree_send {w0 w : World} {Z : Nat → Prop} {N M : Nat} {S : NetS} {P : List Pc} {L : LinkS} {q : Nat} (o : Op4) (h : PQ w0 w Z N S M L) (hz : ∀ k, Z k → k < w.heap.size) (hr : Run S P L q) (hq : q ≤ 900) (hk : o.kind.toNat % 8 < 3) :
    Calls Try.prog 27 #[.pointer (some ⟨N, 0, none⟩), .pointer (some ⟨M, 0, none⟩), .agg #[.int .u8 o.kind.toNat, .int .u8 o.from_.toNat, .int .u8 o.to_.toNat, .int .u8 o.data.toNat]] w (AgPost w0 w Z N M (q + 1) L.script) := by
  obtain ⟨sm, sl⟩ := run_small hr (by omega)
  have HS := Lib.hid sm
  have HL := Lib.hid sl
  obtain ⟨hb1, hb2⟩ := op_box h hz o
  have HB1 := Lib.hid hb1
  have HBZ := Lib.hid hb2
  obtain ⟨W, HW⟩ : ∃ W, Hid (W = w.alloc (.cells #[.int .u8 (o.kind.toNat : Int), .int .u8 (o.from_.toNat : Int), .int .u8 (o.to_.toNat : Int), .int .u8 (o.data.toNat : Int)] 33)) := ⟨_, Lib.hid rfl⟩
  obtain ⟨b, HB⟩ : ∃ b, Hid (b = w.heap.size) := ⟨_, Lib.hid rfl⟩
  rw [← HW.out, ← HB.out] at HB1
  have HBL : Hid (Blk W b 33 #[.int .u8 (o.kind.toNat : Int), .int .u8 (o.from_.toNat : Int), .int .u8 (o.to_.toNat : Int), .int .u8 (o.data.toNat : Int)]) := Lib.hid (by rw [HW.out, HB.out]; exact Blk.new w _ _)
  have HOW : Hid (Only Nobody w W) := Lib.hid (by rw [HW.out]; exact (Only.refl _ _).alloc _)
  have HC : Hid (∀ w', Only (fun k => ¬ (Z k ∨ k = b)) W w' → w'.cell? ⟨b, 0, none⟩ = some (.int .u8 o.kind.toNat) ∧ w'.cell? ⟨b, 1, none⟩ = some (.int .u8 o.from_.toNat) ∧ w'.cell? ⟨b, 2, none⟩ = some (.int .u8 o.to_.toNat) ∧ w'.cell? ⟨b, 3, none⟩ = some (.int .u8 o.data.toNat)) := Lib.hid fun w' ho => by
    have hb := ho.blk HBL.out (fun h => h (.inr rfl))
    exact ⟨hb.cell 0, hb.cell 1, hb.cell 2, hb.cell 3⟩
  obtain ⟨a, HA⟩ : ∃ a, Hid (placeS o.from_.toNat = a) := ⟨_, Lib.hid rfl⟩
  obtain ⟨t, HT⟩ : ∃ t, Hid (placeS o.to_.toNat = t) := ⟨_, Lib.hid rfl⟩
  obtain ⟨d, HD⟩ : ∃ d, Hid (dataS o.data.toNat = d) := ⟨_, Lib.hid rfl⟩
  have HPA : Hid (∀ w, Calls Try.prog 19 #[.int .u8 o.from_.toNat] w fun e w' => e = .returned (.string a) ∧ Only Nobody w w') := Lib.hid fun w => by rw [← HA.out]; exact placeOf_any o.from_ w
  have HPT : Hid (∀ w, Calls Try.prog 19 #[.int .u8 o.to_.toNat] w fun e w' => e = .returned (.string t) ∧ Only Nobody w w') := Lib.hid fun w => by rw [← HT.out]; exact placeOf_any o.to_ w
  have HPD : Hid (∀ w, Calls Try.prog 24 #[.int .u8 o.data.toNat] w fun e w' => e = .returned (.string d) ∧ Only Nobody w w') := Lib.hid fun w => by rw [← HD.out]; exact dataOf_any o.data w
  have hds : d.size ≤ 1048576 := by rw [← HD.out, dataS_small]; omega
  have HAS : Hid (a.size ≤ maxLen) := Lib.hid (by rw [← HA.out]; exact placeS_ok _)
  have HTS : Hid (t.size ≤ maxLen) := Lib.hid (by rw [← HT.out]; exact placeS_ok _)
  have HDS : Hid (d.size ≤ maxLen) := Lib.hid (by rw [← HD.out]; exact dataS_ok _)
  obtain ⟨S', P', hse, hru⟩ := run_send hr (by omega) a t d hds
  have HRU := Lib.hid hru
  obtain ⟨r, L', hml⟩ : ∃ r L', mSend L a t d = (r, L') := ⟨_, _, rfl⟩
  have HSC : Hid (L'.script = L.script) := Lib.hid (by have := msend_script L a t d; rw [hml] at this; exact this)
  rw [hml] at hse
  have HSE := Lib.hid hse
  have HML := Lib.hid hml
  rw [hml] at HRU
  have HNS : Hid (∀ w' L1, PQ w0 w' (fun k => Z k ∨ k = b) N S M L1 → Calls Try.prog 20 #[.pointer (some ⟨N, 0, none⟩), .string a, .string t, .string d] w' fun e w'' => e = .returned (.int .i64 r) ∧ PQ w0 w'' (fun k => Z k ∨ k = b) N S' M L1 ∧ Only (fun k => ¬ (Z k ∨ k = b)) w' w'') := Lib.hid fun w' L1 hp => by
    have := nsend_pq a t d hp HS.out HDS.out
    rw [HSE.out] at this
    exact this
  have HMS : Hid (∀ w' S1, PQ w0 w' (fun k => Z k ∨ k = b) N S1 M L → Calls Try.prog 39 #[.pointer (some ⟨M, 0, none⟩), .string a, .string t, .string d] w' fun e w'' => e = .returned (.int .i64 r) ∧ PQ w0 w'' (fun k => Z k ∨ k = b) N S1 M L' ∧ Only (fun k => ¬ (Z k ∨ k = b)) w' w'') := Lib.hid fun w' S1 hp => by
    have := msend_pq a t d hp HL.out HAS.out HTS.out
    rw [HML.out] at this
    exact this
  have HK : Hid ((o.kind.toNat : Int) % 8 = 0 ∨ (o.kind.toNat : Int) % 8 = 1 ∨ (o.kind.toNat : Int) % 8 = 2) := Lib.hid (by omega)
  have HOZ : Hid (Only (fun k => ¬ (Z k ∨ k = b)) W W) := Lib.hid (Only.refl _ _)
  have HPB := HB1
  clear h hz hr hq hk sm sl hb1 hb2 hds hse hru hml HB1
  obtain ⟨c0, c1, c2, c3⟩ := HC.out _ (Only.refl _ _)
  go_enter Try.func27, Try.ntmps27
  go_upto_region 1 with fail
  rw [← HW.out, ← HB.out]
  go_cut [7, 8] (fun s7 s8 wx => s7 = .string a ∧ s8 = .string t ∧ Only Nobody W wx)
  case first =>
    have HOX : Hid (Only Nobody W W) := Lib.hid (Only.refl _ _)
    have HCN : Hid (∀ w', Only Nobody W w' → w'.cell? ⟨b, 1, none⟩ = some (.int .u8 o.from_.toNat) ∧ w'.cell? ⟨b, 2, none⟩ = some (.int .u8 o.to_.toNat)) := Lib.hid fun w' ho => by
      have := HC.out w' (ho.mono (fun _ x => x.elim))
      exact ⟨this.2.1, this.2.2.1⟩
    have tokA : True := trivial
    go_region_held3 (fun w' => w'.cell? ⟨b, 1, none⟩ = some (.int .u8 o.from_.toNat) ∧ w'.cell? ⟨b, 2, none⟩ = some (.int .u8 o.to_.toNat)) (exact HCN.out _ (by repeat (first | exact HOX.out | refine Only.drew ?_))) (first
      | (go_at_call 19; (with_reducible refine (HPA.out _).mono ?_); rintro e w' ⟨rfl, ho'⟩; have HOX : Hid (Only Nobody W w') := Lib.hid (Only.trans (by repeat (first | exact HOX.out | refine Only.drew ?_)) ho'); clear ho')
      | (go_at_call 19; (with_reducible refine (HPT.out _).mono ?_); rintro e w' ⟨rfl, ho'⟩; have HOX : Hid (Only Nobody W w') := Lib.hid (Only.trans (by repeat (first | exact HOX.out | refine Only.drew ?_)) ho'); clear ho'))
    all_goals
      go_wp2_with fail
      go_meet
      exact ⟨rfl, rfl, by repeat (first | exact HOX.out | refine Only.drew ?_)⟩
  case rest =>
    obtain ⟨rfl, rfl, hox⟩ := hcut
    have HPC := Lib.hid (HPB.out.same hox)
    have HOC : Hid (Only (fun k => ¬ (Z k ∨ k = b)) W wc) := Lib.hid (hox.mono (fun _ x => x.elim))
    obtain ⟨d0, d1, d2, d3⟩ := HC.out _ HOC.out
    clear hox c0 c1 c2 c3
    have HF : Hid (∀ w', PQ w0 w' (fun k => Z k ∨ k = b) N S' M L' → Only (fun k => ¬ (Z k ∨ k = b)) W w' → AgPost w0 w Z N M (q + 1) L.script (.returned (.bool true)) w') := Lib.hid fun w' hp ho => by
      refine ⟨rfl, S', P', L', hp.less (fun k hk => .inl hk), HRU.out, ?_, HSC.out⟩
      exact (HOW.out.mono (fun _ x => x.elim)).trans (ho.mono (fun k hk hz => hk (.inl hz)))
    have HOZ := HOC
    have HPB := HPC
    rcases HK.out with hk8 | hk8 | hk8
    all_goals
      go_upto_region 14 with fail
      go_region_held3 (fun w' => w'.cell? ⟨b, 3, none⟩ = some (.int .u8 o.data.toNat)) (first | exact d3 | exact (HC.out _ (by repeat (first | exact HOZ.out | refine Only.drew ?_))).2.2.2) (first
        | (go_at_call 24; refine (HPD.out _).mono ?_; rintro e w' ⟨rfl, ho'⟩; have HPB := Lib.hid (HPB.out.same (Only.trans (by repeat (first | exact Only.refl _ _ | refine Only.drew ?_)) ho')); have HOZ : Hid (Only (fun k => ¬ (Z k ∨ k = b)) W w') := Lib.hid (Only.trans (by repeat (first | exact HOZ.out | refine Only.drew ?_)) (ho'.mono (fun _ x => x.elim))); clear ho')
        | (go_at_call 20; refine (HNS.out _ _ (HPB.out.same (by repeat (first | exact Only.refl _ _ | refine Only.drew ?_)))).mono ?_; rintro e w' ⟨rfl, hp', ho'⟩; have HPB := Lib.hid hp'; have HOZ : Hid (Only (fun k => ¬ (Z k ∨ k = b)) W w') := Lib.hid (Only.trans (by repeat (first | exact HOZ.out | refine Only.drew ?_)) ho'); clear ho' hp')
        | (go_at_call 39; refine (HMS.out _ _ (HPB.out.same (by repeat (first | exact Only.refl _ _ | refine Only.drew ?_)))).mono ?_; rintro e w' ⟨rfl, hp', ho'⟩; have HPB := Lib.hid hp'; have HOZ : Hid (Only (fun k => ¬ (Z k ∨ k = b)) W w') := Lib.hid (Only.trans (by repeat (first | exact HOZ.out | refine Only.drew ?_)) ho'); clear ho' hp'))
      all_goals
        go_wp2_with fail
        go_ret
        exact HF.out _ (HPB.out.same (by repeat (first | exact Only.refl _ _ | refine Only.drew ?_))) (by repeat (first | exact HOZ.out | refine Only.drew ?_))
end Go.Proofs.Ytbfkmdcjamillaa
