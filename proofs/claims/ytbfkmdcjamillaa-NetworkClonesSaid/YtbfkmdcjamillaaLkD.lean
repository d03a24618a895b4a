/- Network: a network and the law's model side by side; contracts of their methods; counts. -/
import Derived.Test.YtbfkmdcjamillaaLkC
namespace Go.Proofs.Ytbfkmdcjamillaa
open Go.RowKit
attribute [local go_sem ↓] Go.wp_at_zero Go.wp_at_succ

structure Pn (w0 w : World) (Z F : Nat → Prop) (N : Nat) (S : NetS) (M : Nat) (L : LinkS) (vs vp vc : Value) : Prop where
  n : Net w0 w F N S
  m : LkAt w M L vs vp vc
  lo : ∀ k, OwnL M vs vp vc k → w0.heap.size ≤ k
  sep : ∀ k, F k → ¬ OwnL M vs vp vc k
  z : ∀ k, Z k → k < w.heap.size ∧ ¬ F k ∧ ¬ OwnL M vs vp vc k
/-- A network in state S at N and the model in state L at M, apart; the blocks in Z are neither's. -/
def PQ (w0 w : World) (Z : Nat → Prop) (N : Nat) (S : NetS) (M : Nat) (L : LinkS) : Prop := ∃ F vs vp vc, Pn w0 w Z F N S M L vs vp vc
section
variable {w0 w w' : World} {Z F F' : Nat → Prop} {N M : Nat} {S S' : NetS} {L L' : LinkS} {vs vp vc vp' vc' : Value}
theorem PQ.bel (h : PQ w0 w Z N S M L) : Below w0.heap.size w0 w := by
  obtain ⟨F, vs, vp, vc, h⟩ := h
  exact h.n.bel
theorem PQ.size (h : PQ w0 w Z N S M L) : w0.heap.size ≤ w.heap.size := h.bel.size
theorem PQ.same (h : PQ w0 w Z N S M L) (ho : Only Nobody w w') : PQ w0 w' Z N S M L := by
  obtain ⟨F, vs, vp, vc, h⟩ := h
  exact ⟨F, vs, vp, vc, h.n.keep ho (fun _ x => x.elim) (fun _ _ x => x), h.m.same ho, h.lo, h.sep, fun k hk => ⟨Nat.lt_of_lt_of_le (h.z k hk).1 ho.size, (h.z k hk).2⟩⟩
theorem PQ.less (h : PQ w0 w Z N S M L) {Z' : Nat → Prop} (hz : ∀ k, Z' k → Z k) : PQ w0 w Z' N S M L := by
  obtain ⟨F, vs, vp, vc, h⟩ := h
  exact ⟨F, vs, vp, vc, h.n, h.m, h.lo, h.sep, fun k hk => h.z k (hz k hk)⟩
/-- Blocks that are new since a world in which both lay. -/
theorem PQ.more (h : PQ w0 w Z N S M L) {Z' : Nat → Prop} (ho : Only Nobody w w') (hz : ∀ k, Z' k → Z k ∨ (w.heap.size ≤ k ∧ k < w'.heap.size)) : PQ w0 w' Z' N S M L := by
  obtain ⟨F, vs, vp, vc, h⟩ := h
  refine ⟨F, vs, vp, vc, h.n.keep ho (fun _ x => x.elim) (fun _ _ x => x), h.m.same ho, h.lo, h.sep, fun k hk => ?_⟩
  rcases hz k hk with e | ⟨e1, e2⟩
  · exact ⟨Nat.lt_of_lt_of_le (h.z k e).1 ho.size, (h.z k e).2⟩
  · exact ⟨e2, fun x => by have := h.n.bd k x; omega, fun x => by have := h.m.lt k x; omega⟩
theorem PQ.off (h : PQ w0 w Z N S M L) (hlo : ∀ k, Z k → w0.heap.size ≤ k) (ho : Only Z w w') : PQ w0 w' Z N S M L := by
  obtain ⟨F, vs, vp, vc, h⟩ := h
  exact ⟨F, vs, vp, vc, h.n.keep ho hlo (fun b hb hz => (h.z b hz).2.1 hb), h.m.keep ho (fun k hk hz => (h.z k hz).2.2 hk), h.lo, h.sep, fun k hk => ⟨Nat.lt_of_lt_of_le (h.z k hk).1 ho.size, (h.z k hk).2⟩⟩
theorem Pn.step_n (h : Pn w0 w Z F N S M L vs vp vc) (h2 : Net w0 w' F' N S') (ho : Only F w w') (hg : Grows F F' w) : PQ w0 w' Z N S' M L ∧ Only (fun k => ¬ Z k) w w' := by
  refine ⟨⟨F', vs, vp, vc, h2, h.m.keep ho (fun k hk x => h.sep k x hk), h.lo, fun k hk hm => h.sep k (hg k (h.m.lt k hm) hk) hm, fun k hk => ?_⟩, ho.mono (fun k hk hz => (h.z k hz).2.1 hk)⟩
  obtain ⟨h1, h3, h4⟩ := h.z k hk
  exact ⟨Nat.lt_of_lt_of_le h1 ho.size, fun x => h3 (hg k h1 x), h4⟩
theorem Pn.step_m (h : Pn w0 w Z F N S M L vs vp vc) (h2 : LkAt w' M L' vs vp' vc') (ho : Only (OwnL M vs vp vc) w w') (hp : NewOf vp vp' w) (hc : NewOf vc vc' w) : PQ w0 w' Z N S M L' ∧ Only (fun k => ¬ Z k) w w' := by
  have hnew : ∀ k, OwnL M vs vp' vc' k → OwnL M vs vp vc k ∨ w.heap.size ≤ k := by
    intro k hk
    rcases hk with e | e | e | e
    · exact .inl (.inl e)
    · exact .inl (.inr (.inl e))
    · exact (hp k e).elim (fun x => .inl (.inr (.inr (.inl x)))) .inr
    · exact (hc k e).elim (fun x => .inl (.inr (.inr (.inr x)))) .inr
  refine ⟨⟨F, vs, vp', vc', h.n.keep ho (fun k hk => h.lo k hk) (fun b hb hm => h.sep b hb hm), h2, fun k hk => ?_, fun k hk hm => ?_, fun k hk => ?_⟩, ho.mono (fun k hk hz => (h.z k hz).2.2 hk)⟩
  · rcases hnew k hk with e | e
    · exact h.lo k e
    · exact Nat.le_trans h.n.bel.size e
  · rcases hnew k hm with e | e
    · exact h.sep k hk e
    · have := h.n.bd k hk; omega
  · obtain ⟨h1, h3, h4⟩ := h.z k hk
    refine ⟨Nat.lt_of_lt_of_le h1 ho.size, h3, fun x => ?_⟩
    rcases hnew k x with e | e
    · exact h4 e
    · omega

theorem nsend_pq (a b c : ByteArray) (h : PQ w0 w Z N S M L) (hs : Small S) (hc : c.size ≤ maxLen) : Calls Try.prog 20 #[.pointer (some ⟨N, 0, none⟩), .string a, .string b, .string c] w fun e w' => e = .returned (.int .i64 (netSendAll S a b c).1) ∧ PQ w0 w' Z N (netSendAll S a b c).2 M L ∧ Only (fun k => ¬ Z k) w w' := by
  obtain ⟨F, vs, vp, vc, h⟩ := h
  exact (send_net w0 w F N S a b c h.n hs hc).mono fun _ _ ⟨he, F', h1, h2, h3⟩ => ⟨he, h.step_n h1 h2 h3⟩
theorem nstep_pq (h : PQ w0 w Z N S M L) (hs : S.now ≤ 100000) : Calls Try.prog 21 #[.pointer (some ⟨N, 0, none⟩)] w fun e w' => e = .returned (.tuple #[]) ∧ PQ w0 w' Z N { S with now := S.now + 1 } M L ∧ Only (fun k => ¬ Z k) w w' := by
  obtain ⟨F, vs, vp, vc, h⟩ := h
  exact (step_net w0 w F N S h.n hs).mono fun _ _ ⟨he, h1, h2⟩ => ⟨he, h.step_n h1 h2 (Grows.refl _ _)⟩
theorem nrecv_pq (a : ByteArray) (h : PQ w0 w Z N S M L) (hs : S.pend ≤ 4096) (ha : a.size ≤ maxLen) : Calls Try.prog 18 #[.pointer (some ⟨N, 0, none⟩), .string a] w fun e w' => ∃ v, e = .returned v ∧ w'.ownsRow w.heap.size 38 2 v (netTake S a).length (pksOf (netTake S a)) ∧ PQ w0 w' (fun k => Z k ∨ v.ownBlock = some k) N (netLeft S a) M L ∧ Only (fun k => ¬ Z k) w w' := by
  obtain ⟨F, vs, vp, vc, h⟩ := h
  refine (receive_net w0 w F N S a h.n hs ha).mono fun _ w' ⟨v, he, hr, h1, h2⟩ => ⟨v, he, hr, ?_⟩
  obtain ⟨h3, h4⟩ := h.step_n h1 h2 (Grows.refl _ _)
  refine ⟨⟨F, vs, vp, vc, h1, h.m.keep h2 (fun k hk x => h.sep k x hk), h.lo, h.sep, fun k hk => ?_⟩, h4⟩
  rcases hk with hk | hk
  · exact ⟨Nat.lt_of_lt_of_le (h.z k hk).1 h2.size, (h.z k hk).2⟩
  · have h5 := hr.lt k hk
    exact ⟨h5.2, fun x => by have := h.n.bd k x; omega, fun x => by have := h.m.lt k x; omega⟩
theorem ncut_pq (a b : ByteArray) (h : PQ w0 w Z N S M L) (hs : S.ncut ≤ 100000) (ha : a.size ≤ maxLen) (hb : b.size ≤ maxLen) : Calls Try.prog 29 #[.pointer (some ⟨N, 0, none⟩), .string a, .string b] w fun e w' => e = .returned (.tuple #[]) ∧ PQ w0 w' Z N (S.link_ a b true 1) M L ∧ Only (fun k => ¬ Z k) w w' := by
  obtain ⟨F, vs, vp, vc, h⟩ := h
  exact (cut_net w0 w F N S a b h.n hs ha hb).mono fun _ _ ⟨he, h1, h2⟩ => ⟨he, h.step_n h1 h2 (Grows.refl _ _)⟩
theorem njoin_pq (a b : ByteArray) (h : PQ w0 w Z N S M L) (ha : a.size ≤ maxLen) (hb : b.size ≤ maxLen) : Calls Try.prog 30 #[.pointer (some ⟨N, 0, none⟩), .string a, .string b] w fun e w' => e = .returned (.tuple #[]) ∧ PQ w0 w' Z N (S.link_ a b false 0) M L ∧ Only (fun k => ¬ Z k) w w' := by
  obtain ⟨F, vs, vp, vc, h⟩ := h
  exact (join_net w0 w F N S a b h.n ha hb).mono fun _ _ ⟨he, h1, h2⟩ => ⟨he, h.step_n h1 h2 (Grows.refl _ _)⟩
theorem npend_pq (h : PQ w0 w Z N S M L) (hs : S.pend ≤ 4096) : Calls Try.prog 22 #[.pointer (some ⟨N, 0, none⟩)] w fun e w' => e = .returned (.int .i64 S.pend) ∧ Only Nobody w w' := by
  obtain ⟨F, vs, vp, vc, h⟩ := h
  exact (pending_net w0 w F N S h.n hs).mono fun _ _ ⟨he, _, h2⟩ => ⟨he, h2⟩
theorem nnow_pq (h : PQ w0 w Z N S M L) : Calls Try.prog 32 #[.pointer (some ⟨N, 0, none⟩)] w fun e w' => e = .returned (.int .i64 S.now) ∧ w = w' := by
  obtain ⟨F, vs, vp, vc, h⟩ := h
  exact now_at N F S w h.n.at_
theorem nsent_pq (h : PQ w0 w Z N S M L) : Calls Try.prog 23 #[.pointer (some ⟨N, 0, none⟩)] w fun e w' => e = .returned (.int .i64 S.sent) ∧ w = w' := by
  obtain ⟨F, vs, vp, vc, h⟩ := h
  exact sent_at N F S w h.n.at_
theorem nlost_pq (h : PQ w0 w Z N S M L) : Calls Try.prog 25 #[.pointer (some ⟨N, 0, none⟩)] w fun e w' => e = .returned (.int .i64 S.lost) ∧ w = w' := by
  obtain ⟨F, vs, vp, vc, h⟩ := h
  exact lost_at N F S w h.n.at_
/-- The bounds that the model's methods ask. -/
structure SmallL (L : LinkS) : Prop where
  pcs : L.pcs.length ≤ 4000
  cuts : L.cuts.length ≤ 5000
  now : L.now ≤ 100000
  sent : L.sent ≤ 100000
  lost : L.lost ≤ 100000
  scr : L.script.length ≤ 1000000000000000
  pos : ∀ p ∈ L.pcs, 0 ≤ p.at_
theorem msend_pq (a b c : ByteArray) (h : PQ w0 w Z N S M L) (hs : SmallL L) (ha : a.size ≤ maxLen) (hb : b.size ≤ maxLen) : Calls Try.prog 39 #[.pointer (some ⟨M, 0, none⟩), .string a, .string b, .string c] w fun e w' => e = .returned (.int .i64 (mSend L a b c).1) ∧ PQ w0 w' Z N S M (mSend L a b c).2 ∧ Only (fun k => ¬ Z k) w w' := by
  obtain ⟨F, vs, vp, vc, h⟩ := h
  have key : Calls Try.prog 39 #[.pointer (some ⟨M, 0, none⟩), .string a, .string b, .string c] w (MSendPost M vs vp vc (mSend L a b c) w) := by
    by_cases hp : (placeB a && placeB b) = true
    · exact msend_good M L vs vp vc a b c w h.m hp hs.pcs hs.cuts hs.now hs.sent hs.lost hs.scr
    · exact msend_bad M L vs vp vc a b c w h.m (by simpa using hp) ha hb
  exact key.mono fun _ _ ⟨he, vp', h1, h2, h3⟩ => ⟨he, h.step_m h1 (h2.mono (fun k hk => hk.elim .inl (fun e => .inr (.inr (.inl e))))) h3 (fun _ e => .inl e)⟩
theorem mrecv_pq (a : ByteArray) (h : PQ w0 w Z N S M L) (hs : SmallL L) : Calls Try.prog 40 #[.pointer (some ⟨M, 0, none⟩), .string a] w fun e w' => ∃ v, e = .returned v ∧ w'.ownsRow w.heap.size 38 2 v (mRecv L a).1.length (pksOf (mRecv L a).1) ∧ PQ w0 w' Z N S M (mRecv L a).2 ∧ Only (fun k => ¬ Z k) w w' := by
  obtain ⟨F, vs, vp, vc, h⟩ := h
  refine (mreceive_any M L vs vp vc a w h.m hs.pcs hs.now hs.pos).mono fun _ w' ⟨v, he, hr, vp', h1, h2, h3⟩ => ⟨v, he, hr, ?_⟩
  exact h.step_m h1 (h2.mono (fun k hk => .inl hk)) h3 (fun _ e => .inl e)
theorem mcut_pq (a b : ByteArray) (h : PQ w0 w Z N S M L) (hs : SmallL L) : Calls Try.prog 41 #[.pointer (some ⟨M, 0, none⟩), .string a, .string b] w fun e w' => e = .returned (.int .i64 (cutN L a b)) ∧ Only Nobody w w' := by
  obtain ⟨F, vs, vp, vc, h⟩ := h
  exact mcut_any M L vs vp vc a b w h.m hs.cuts
/-- What a walk reads of the model. -/
theorem PQ.cells (h : PQ w0 w Z N S M L) : ∃ A c, w.cell? ⟨M, 1, none⟩ = some (.int .i64 (L.now : Int)) ∧ w.cell? ⟨M, 2, none⟩ = some (.int .i64 (L.sent : Int)) ∧ w.cell? ⟨M, 3, none⟩ = some (.int .i64 (L.lost : Int)) ∧ w.cell? ⟨M, 4, none⟩ = some (.slice A L.pcs.length c) := by
  obtain ⟨F, vs, vp, vc, h⟩ := h
  obtain ⟨A, c, rfl⟩ := own_form h.m.pcs
  exact ⟨A, c, h.m.blk.cell 1, h.m.blk.cell 2, h.m.blk.cell 3, h.m.blk.cell 4⟩
end

theorem run_small {S : NetS} {P : List Pc} {L : LinkS} {q : Nat} (h : Run S P L q) (hq : q ≤ 1000) : Small S ∧ SmallL L := by
  have hs := h.good.small (by omega)
  refine ⟨hs, ?_, ?_, ?_, ?_, ?_, ?_, ?_⟩
  · rw [h.pcs]; have := h.few; omega
  · have := h.ncuts; omega
  · rw [h.now]; exact hs.now
  · rw [h.sent]; exact hs.sent
  · rw [h.lost]; exact Nat.le_trans hs.lost hs.sent
  · rw [h.script]; exact hs.scr
  · rw [h.pcs]; exact h.pos

set_option maxRecDepth 100000 in
set_option maxHeartbeats 2000000 in
theorem counts_pq {w0 w : World} {Z : Nat → Prop} {N M : Nat} {S : NetS} {L : LinkS} {P : List Pc} {q : Nat} (h : PQ w0 w Z N S M L) (hr : Run S P L q) (hq : q ≤ 1000) : Calls Try.prog 28 #[.pointer (some ⟨N, 0, none⟩), .pointer (some ⟨M, 0, none⟩)] w fun e w' => e = .returned (.bool true) ∧ Only Nobody w w' := by
  have HP := Lib.hid h
  have HS := Lib.hid (run_small hr hq).1
  obtain ⟨e1, e2, e3, e4⟩ := run_counts hr
  obtain ⟨A, c, hc1, hc2, hc3, hc4⟩ := h.cells
  obtain ⟨n1, H1⟩ : ∃ n, Hid (L.now = n) := ⟨_, Lib.hid rfl⟩
  obtain ⟨n2, H2⟩ : ∃ n, Hid (L.pcs.length = n) := ⟨_, Lib.hid rfl⟩
  obtain ⟨n3, H3⟩ : ∃ n, Hid (L.sent = n) := ⟨_, Lib.hid rfl⟩
  obtain ⟨n4, H4⟩ : ∃ n, Hid (L.lost = n) := ⟨_, Lib.hid rfl⟩
  rw [H1.out] at hc1 e1
  rw [H2.out] at hc4 e2
  rw [H3.out] at hc2 e3
  rw [H4.out] at hc3 e4
  have HQ1 : Hid (∀ w', Only Nobody w w' → Calls Try.prog 32 #[.pointer (some ⟨N, 0, none⟩)] w' fun e w'' => e = .returned (.int .i64 (n1 : Int)) ∧ w' = w'') := Lib.hid fun w' ho => by rw [← e1]; exact nnow_pq (HP.out.same ho)
  have HQ2 : Hid (∀ w', Only Nobody w w' → Calls Try.prog 22 #[.pointer (some ⟨N, 0, none⟩)] w' fun e w'' => e = .returned (.int .i64 (n2 : Int)) ∧ Only Nobody w' w'') := Lib.hid fun w' ho => by rw [← e2]; exact npend_pq (HP.out.same ho) HS.out.pend
  have HQ3 : Hid (∀ w', Only Nobody w w' → Calls Try.prog 23 #[.pointer (some ⟨N, 0, none⟩)] w' fun e w'' => e = .returned (.int .i64 (n3 : Int)) ∧ w' = w'') := Lib.hid fun w' ho => by rw [← e3]; exact nsent_pq (HP.out.same ho)
  have HQ4 : Hid (∀ w', Only Nobody w w' → Calls Try.prog 25 #[.pointer (some ⟨N, 0, none⟩)] w' fun e w'' => e = .returned (.int .i64 (n4 : Int)) ∧ w' = w'') := Lib.hid fun w' ho => by rw [← e4]; exact nlost_pq (HP.out.same ho)
  have HM : Hid (M < w.heap.size) := Lib.hid (by obtain ⟨F, vs, vp, vc, h⟩ := HP.out; exact h.m.blk.lt)
  have HC : Hid (∀ w', Only Nobody w w' → w'.cell? ⟨M, 1, none⟩ = some (.int .i64 (n1 : Int)) ∧ w'.cell? ⟨M, 2, none⟩ = some (.int .i64 (n3 : Int)) ∧ w'.cell? ⟨M, 3, none⟩ = some (.int .i64 (n4 : Int)) ∧ w'.cell? ⟨M, 4, none⟩ = some (.slice A n2 c)) := Lib.hid fun w' ho =>
    ⟨(ho.cell (p := ⟨M, 1, none⟩) HM.out (fun x => x)).trans hc1, (ho.cell (p := ⟨M, 2, none⟩) HM.out (fun x => x)).trans hc2, (ho.cell (p := ⟨M, 3, none⟩) HM.out (fun x => x)).trans hc3, (ho.cell (p := ⟨M, 4, none⟩) HM.out (fun x => x)).trans hc4⟩
  have HOW : Hid (Only Nobody w w) := Lib.hid (Only.refl _ _)
  clear h hr e1 e2 e3 e4 hq
  go_enter Try.func28, Try.ntmps28
  go_wp2_with fail
  go_region_held3 (fun w' => w'.cell? ⟨M, 1, none⟩ = some (.int .i64 (n1 : Int)) ∧ w'.cell? ⟨M, 2, none⟩ = some (.int .i64 (n3 : Int)) ∧ w'.cell? ⟨M, 3, none⟩ = some (.int .i64 (n4 : Int)) ∧ w'.cell? ⟨M, 4, none⟩ = some (.slice A n2 c)) (exact HC.out _ (by repeat (first | exact HOW.out | exact Only.refl _ _ | refine Only.drew ?_))) (first
    | (go_at_call 32; refine (HQ1.out _ (by repeat (first | exact HOW.out | refine Only.drew ?_))).mono ?_; rintro e w' ⟨rfl, rfl⟩)
    | (go_at_call 23; refine (HQ3.out _ (by repeat (first | exact HOW.out | refine Only.drew ?_))).mono ?_; rintro e w' ⟨rfl, rfl⟩)
    | (go_at_call 25; refine (HQ4.out _ (by repeat (first | exact HOW.out | refine Only.drew ?_))).mono ?_; rintro e w' ⟨rfl, rfl⟩)
    | (go_at_call 22; refine (HQ2.out _ (by repeat (first | exact HOW.out | refine Only.drew ?_))).mono ?_; rintro e w' ⟨rfl, ho'⟩; have HOW : Hid (Only Nobody w w') := Lib.hid (Only.trans (by repeat (first | exact HOW.out | refine Only.drew ?_)) ho'); clear ho'))
  all_goals
    go_wp2_with fail
    go_ret
    exact ⟨rfl, by repeat (first | exact HOW.out | refine Only.drew ?_)⟩
end Go.Proofs.Ytbfkmdcjamillaa
