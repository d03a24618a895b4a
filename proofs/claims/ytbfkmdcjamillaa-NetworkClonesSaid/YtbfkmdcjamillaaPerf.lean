/- The walk of perform; two networks side by side. -/
import Derived.Test.YtbfkmdcjamillaaOpsW
namespace Go.Proofs.Ytbfkmdcjamillaa
open Go.RowKit Go.Maps
attribute [local go_sem ↓] Go.wp_at_zero Go.wp_at_succ

/-- What perform makes of a state. -/
def perfS (S : NetS) (kd : Nat) (o : Op4) : Int × NetS :=
  if kd % 4 = 2 then (0, { S with now := S.now + 1 }) else if kd % 4 = 3 then (0, netLeft S (placeS o.to_.toNat)) else netSendAll S (placeS o.from_.toNat) (placeS o.to_.toNat) (dataS o.data.toNat)
def PerfPost (w0 w : World) (F : Nat → Prop) (N : Nat) (r : Int × NetS) (e : Ending) (w' : World) : Prop := e = .returned (.int .i64 r.1) ∧ ∃ F', Net w0 w' F' N r.2 ∧ Only F w w' ∧ Grows F F' w

theorem placeS_ok (n : Nat) : (placeS n).size ≤ maxLen := by have := placeS_small n; unfold maxLen; omega
theorem dataS_ok (n : Nat) : (dataS n).size ≤ maxLen := by rw [dataS_small]; unfold maxLen; omega

def opCells (kd : Nat) (o : Op4) : Array Value := #[.int .u8 (kd : Int), .int .u8 o.from_.toNat, .int .u8 o.to_.toNat, .int .u8 o.data.toNat]

theorem net_after {w w' w'' : World} {F F' : Nat → Prop} (ho : Only Nobody w w') (h2 : Only F w' w'') (h3 : Grows F F' w') : Only F w w'' ∧ Grows F F' w :=
  ⟨(ho.mono (fun _ x => x.elim)).trans h2, fun b hb hf => h3 b (Nat.lt_of_lt_of_le hb ho.size) hf⟩

set_option maxRecDepth 100000 in
set_option maxHeartbeats 1000000 in
theorem perform_send (w0 w : World) (F : Nat → Prop) (N : Nat) (S : NetS) (kd : Nat) (o : Op4) (h : Net w0 w F N S) (hs : Small S) (hk : kd < 256) (h2 : ¬ kd % 4 = 2) (h3 : ¬ kd % 4 = 3) :
    Calls Try.prog 17 #[.pointer (some ⟨N, 0, none⟩), .agg #[.int .u8 (kd : Int), .int .u8 o.from_.toNat, .int .u8 o.to_.toNat, .int .u8 o.data.toNat]] w (PerfPost w0 w F N (netSendAll S (placeS o.from_.toNat) (placeS o.to_.toNat) (dataS o.data.toNat))) := by
  have H := Lib.hid h
  have HS := Lib.hid hs
  have hki : (kd : Int) < 256 := by omega
  have b2 : ((kd : Int) % 4 == 2) = false := by simp; omega
  have b3 : ((kd : Int) % 4 == 3) = false := by simp; omega
  have c2 : ¬ (kd : Int) % 4 = 2 := by omega
  have c3 : ¬ (kd : Int) % 4 = 3 := by omega
  have HB0 : Hid (Blk (w.alloc (.cells (opCells kd o) 33)) w.heap.size 33 (opCells kd o)) := Lib.hid (Blk.new w _ _)
  have HOW : Hid (Only Nobody w (w.alloc (.cells (opCells kd o) 33)).drew) := Lib.hid ((Only.refl _ _).alloc _).drew
  have HC : Hid (∀ w', Only Nobody (w.alloc (.cells (opCells kd o) 33)) w' → w'.cell? ⟨w.heap.size, 1, none⟩ = some (.int .u8 o.from_.toNat) ∧ w'.cell? ⟨w.heap.size, 2, none⟩ = some (.int .u8 o.to_.toNat) ∧ w'.cell? ⟨w.heap.size, 3, none⟩ = some (.int .u8 o.data.toNat)) :=
    Lib.hid fun w' ho => ⟨(ho.blk HB0.out (fun x => x)).cell 1, (ho.blk HB0.out (fun x => x)).cell 2, (ho.blk HB0.out (fun x => x)).cell 3⟩
  have HOB : Hid (Only Nobody (w.alloc (.cells (opCells kd o) 33)) (w.alloc (.cells (opCells kd o) 33)).drew) := Lib.hid (Only.refl _ _).drew
  have HC2 : Hid (∀ w' w'', Only Nobody (w.alloc (.cells (opCells kd o) 33)) w' → Only F w' w'' → w''.cell? ⟨w.heap.size, 1, none⟩ = some (.int .u8 o.from_.toNat) ∧ w''.cell? ⟨w.heap.size, 2, none⟩ = some (.int .u8 o.to_.toNat) ∧ w''.cell? ⟨w.heap.size, 3, none⟩ = some (.int .u8 o.data.toNat)) :=
    Lib.hid fun w' w'' ho h2 => by
      have hb := (h2.blk (ho.blk HB0.out (fun x => x)) (fun x => by have := H.out.bd _ x; omega))
      exact ⟨hb.cell 1, hb.cell 2, hb.cell 3⟩
  clear h hs h2 h3 hk HB0
  have HDS := Lib.hid (dataS_ok o.data.toNat)
  obtain ⟨hc1, hc2, hc3⟩ := HC.out _ (Only.refl _ _)
  go_enter Try.func17, Try.ntmps17
  go_wp2_with fail
  go_region_held3 (fun w' => w'.cell? ⟨w.heap.size, 1, none⟩ = some (.int .u8 o.from_.toNat) ∧ w'.cell? ⟨w.heap.size, 2, none⟩ = some (.int .u8 o.to_.toNat) ∧ w'.cell? ⟨w.heap.size, 3, none⟩ = some (.int .u8 o.data.toNat)) (first | exact ⟨hc1, hc2, hc3⟩ | exact hcc) (first
    | (go_at_call 19; refine (placeOf_any _ _).mono ?_; rintro e w' ⟨rfl, ho'⟩; have HOW := Lib.hid (HOW.out.trans ho'); have HOB := Lib.hid (HOB.out.trans ho'); have hcc := HC.out _ HOB.out; clear ho')
    | (go_at_call 24; refine (dataOf_any _ _).mono ?_; rintro e w' ⟨rfl, ho'⟩; have HOW := Lib.hid (HOW.out.trans ho'); have HOB := Lib.hid (HOB.out.trans ho'); have hcc := HC.out _ HOB.out; clear ho')
    | (go_at_call 20; refine (send_net w0 _ F N S _ _ _ (H.out.keep HOW.out (fun _ x => x.elim) (fun _ _ x => x)) HS.out HDS.out).mono ?_; rintro e w' ⟨rfl, F', hn', ho', hg'⟩; have HF := Lib.hid hn'; have HA := Lib.hid (net_after HOW.out ho' hg'); have hcc := HC2.out _ _ HOB.out ho'; clear hn' ho' hg'))
  all_goals
    go_wp2_with fail
    go_ret
    exact ⟨rfl, _, HF.out, HA.out.1, HA.out.2⟩

set_option maxRecDepth 100000 in
set_option maxHeartbeats 1000000 in
theorem perform_step (w0 w : World) (F : Nat → Prop) (N : Nat) (S : NetS) (kd : Nat) (o : Op4) (h : Net w0 w F N S) (hs : Small S) (hk : kd < 256) (h2 : kd % 4 = 2) :
    Calls Try.prog 17 #[.pointer (some ⟨N, 0, none⟩), .agg #[.int .u8 (kd : Int), .int .u8 o.from_.toNat, .int .u8 o.to_.toNat, .int .u8 o.data.toNat]] w (PerfPost w0 w F N (0, { S with now := S.now + 1 })) := by
  have H := Lib.hid h
  have HS := Lib.hid hs
  have hki : (kd : Int) < 256 := by omega
  have c2 : (kd : Int) % 4 = 2 := by omega
  have HOW : Hid (Only Nobody w (w.alloc (.cells (opCells kd o) 33))) := Lib.hid ((Only.refl _ _).alloc _)
  clear h hs h2 hk
  go_enter Try.func17, Try.ntmps17
  go_wp2_with fail
  refine (step_net w0 _ F N S (H.out.keep HOW.out (fun _ x => x.elim) (fun _ _ x => x)) HS.out.now).mono ?_
  rintro e w' ⟨rfl, hn', ho'⟩
  have HF := Lib.hid hn'
  have HA := Lib.hid ho'
  clear hn' ho'
  go_wp2_with fail
  go_ret
  exact ⟨rfl, _, HF.out, (HOW.out.mono (fun _ x => x.elim)).trans HA.out, Grows.refl _ _⟩

set_option maxRecDepth 100000 in
set_option maxHeartbeats 1000000 in
theorem perform_recv (w0 w : World) (F : Nat → Prop) (N : Nat) (S : NetS) (kd : Nat) (o : Op4) (h : Net w0 w F N S) (hs : Small S) (hk : kd < 256) (h3 : kd % 4 = 3) :
    Calls Try.prog 17 #[.pointer (some ⟨N, 0, none⟩), .agg #[.int .u8 (kd : Int), .int .u8 o.from_.toNat, .int .u8 o.to_.toNat, .int .u8 o.data.toNat]] w (PerfPost w0 w F N (0, netLeft S (placeS o.to_.toNat))) := by
  have H := Lib.hid h
  have HS := Lib.hid hs
  have hki : (kd : Int) < 256 := by omega
  have c2 : (kd : Int) % 4 = 3 := by omega
  have HOW : Hid (Only Nobody w (w.alloc (.cells (opCells kd o) 33))) := Lib.hid ((Only.refl _ _).alloc _)
  clear h hs h3 hk
  go_enter Try.func17, Try.ntmps17
  go_wp2_with fail
  refine (placeOf_any _ _).mono ?_
  rintro e w1 ⟨rfl, ho1⟩
  have HOW := Lib.hid (HOW.out.trans ho1)
  clear ho1
  go_wp2_with fail
  refine (receive_net w0 _ F N S _ (H.out.keep HOW.out (fun _ x => x.elim) (fun _ _ x => x)) HS.out.pend (placeS_ok _)).mono ?_
  rintro e w' ⟨v, rfl, _, hn', ho'⟩
  have HF := Lib.hid hn'
  have HA := Lib.hid ho'
  clear hn' ho'
  go_wp2_with fail
  go_ret
  exact ⟨rfl, _, HF.out, (HOW.out.mono (fun _ x => x.elim)).trans HA.out, Grows.refl _ _⟩

theorem perform_net (w0 w : World) (F : Nat → Prop) (N : Nat) (S : NetS) (kd : Nat) (o : Op4) (h : Net w0 w F N S) (hs : Small S) (hk : kd < 256) :
    Calls Try.prog 17 #[.pointer (some ⟨N, 0, none⟩), .agg #[.int .u8 (kd : Int), .int .u8 o.from_.toNat, .int .u8 o.to_.toNat, .int .u8 o.data.toNat]] w (PerfPost w0 w F N (perfS S kd o)) := by
  unfold perfS
  by_cases h2 : kd % 4 = 2
  · rw [if_pos h2]; exact perform_step w0 w F N S kd o h hs hk h2
  · rw [if_neg h2]
    by_cases h3 : kd % 4 = 3
    · rw [if_pos h3]; exact perform_recv w0 w F N S kd o h hs hk h3
    · rw [if_neg h3]; exact perform_send w0 w F N S kd o h hs hk h2 h3

theorem perform_wr (w0 w : World) (F : Nat → Prop) (N : Nat) (S : NetS) (kd : Nat) (o : Op4) (hkd : kd = o.kind.toNat % 2 * 2) (h : Net w0 w F N S) (hs : Small S) :
    Calls Try.prog 17 #[.pointer (some ⟨N, 0, none⟩), .agg #[.int .u8 (IntKind.u8.wrap ((o.kind.toNat : Int).tmod 2 * 2)), .int .u8 o.from_.toNat, .int .u8 o.to_.toNat, .int .u8 o.data.toNat]] w (PerfPost w0 w F N (perfS S kd o)) := by
  have e : (o.kind.toNat : Int).tmod 2 = ((o.kind.toNat % 2 : Nat) : Int) := rfl
  rw [IntWalk.u8_in _ (by rw [e]; omega), e, show ((o.kind.toNat % 2 : Nat) : Int) * 2 = (kd : Int) by omega]
  exact perform_net w0 w F N S kd o h hs (by omega)

/-! Two networks. -/
structure Two (w0 w : World) (Fa : Nat → Prop) (Na : Nat) (A : NetS) (Fb : Nat → Prop) (Nb : Nat) (B : NetS) : Prop where
  a : Net w0 w Fa Na A
  b : Net w0 w Fb Nb B
  dis : ∀ x, Fa x → ¬ Fb x
section
variable {w0 w w' : World} {Fa Fa' Fb Fb' : Nat → Prop} {Na Nb : Nat} {A A' B B' : NetS}
theorem Two.left (h : Two w0 w Fa Na A Fb Nb B) (hn : Net w0 w' Fa' Na A') (ho : Only Fa w w') (hg : Grows Fa Fa' w) : Two w0 w' Fa' Na A' Fb Nb B :=
  ⟨hn, h.b.keep ho h.a.lo (fun x hb ha => h.dis x ha hb), fun x ha hb => h.dis x (hg x (h.b.bd x hb) ha) hb⟩
theorem Two.right (h : Two w0 w Fa Na A Fb Nb B) (hn : Net w0 w' Fb' Nb B') (ho : Only Fb w w') (hg : Grows Fb Fb' w) : Two w0 w' Fa Na A Fb' Nb B' :=
  ⟨h.a.keep ho h.b.lo (fun x ha hb => h.dis x ha hb), hn, fun x ha hb => h.dis x ha (hg x (h.a.bd x ha) hb)⟩
theorem Two.none_ (h : Two w0 w Fa Na A Fb Nb B) (ho : Only Nobody w w') : Two w0 w' Fa Na A Fb Nb B :=
  ⟨h.a.keep ho (fun _ x => x.elim) (fun _ _ x => x), h.b.keep ho (fun _ x => x.elim) (fun _ _ x => x), h.dis⟩
end

end Go.Proofs.Ytbfkmdcjamillaa
