/- Network: contract of Clone (printed by gen_clnb.py). -/
import Derived.Test.YtbfkmdcjamillaaClnA
import Derived.Maps.RangeWalk
namespace Go.Proofs.Ytbfkmdcjamillaa
open Go.RowKit Go.Maps
attribute [local go_sem ↓] Go.wp_at_zero Go.wp_at_succ

/-- A state with the queues of some places alone. -/
def NetS.part (S : NetS) (K : List ByteArray) : NetS := { S with keys := K, qs := fun s => if s ∈ K then S.qs s else [] }
theorem part_more (S : NetS) (K : List ByteArray) (x : ByteArray) (hx : x ∉ K) : ((S.part K).with_ x).put x (S.qs x) = S.part (K ++ [x]) := by
  unfold NetS.part NetS.with_ NetS.put
  rw [if_neg hx]
  congr 1
  funext s
  by_cases e : s = x
  · subst e; simp
  · simp [e]
theorem nodup_sub : ∀ (K l : List ByteArray), K.Nodup → (∀ s ∈ K, s ∈ l) → K.length ≤ l.length
  | [], _, _, _ => Nat.zero_le _
  | a :: K, l, hn, hs => by
    obtain ⟨h1, h2⟩ := List.nodup_cons.1 hn
    have ha := hs a (by simp)
    have := nodup_sub K (l.erase a) h2 (fun s hsK => (List.mem_erase_of_ne (fun e => h1 (by rw [← e]; exact hsK))).2 (hs s (by simp [hsK])))
    rw [List.length_erase_of_mem ha] at this
    have : 0 < l.length := List.length_pos_of_mem ha
    simp only [List.length_cons]
    omega
/-- A place has got a queue. w1: the world in which the new blocks lie; w': the map is written. -/
theorem newkey2 {w w' : World} {F : Nat → Prop} {N : Nat} {S : NetS} {sv : Value} {mT mC nT nC : Nat} {DT DC : DataW Unit} {box : ByteArray → Nat} {fq : ByteArray → Nat → Prop} {q : List Cp} {w1 : World} {G : Nat → Prop} {k : Nat} (h : NetParts w F N S sv mT mC nT nC DT DC box fq) {b : ByteArray} (hb : b ∉ S.keys) (hsb : b.size ≤ 64) (ho : Only Nobody w w1) (hq : QAt w1 G k q) (hG : ∀ x, G x → w.heap.size ≤ x)
    (hm : w'.ownsMap Try.prog 9 ptrElem mT (nT + 1) (DT.put (kl b) (.lit (.int .i64 k)))) (hg : w1.grownBy w' (some mT)) : ∃ DT' box' fq', NetParts w' (fun x => F x ∨ G x) N ((S.with_ b).put b q) sv mT mC (nT + 1) nC DT' DC box' fq' := by
  have hT := h.mt.lt
  have ho1 : Only (· = mT) w w' := (ho.mono (fun _ x => x.elim)).trans (Only.of_grown hg (fun k hk => by injection hk with hk; exact hk.symm))
  have hsz := ho1.size
  have hsz1 := hg.size
  have hkl : WideAt.IsKeyLit (kl b) := trivial
  have hmap := h.mt.isMap
  have hbs : ∀ s, s ∈ S.keys → s ≠ b := fun s hs e => hb (e ▸ hs)
  refine ⟨DT.put (kl b) (.lit (.int .i64 k)), fun s => if s = b then k else box s, fun s x => if s = b then (G x ∧ x < w'.heap.size) else fq s x, ?_⟩
  have hNT : N ≠ mT := by
    rintro rfl
    obtain ⟨es, clock, hm, _⟩ := h.mt
    have := h.blk
    unfold Blk at this
    rw [hm] at this
    cases this
  have hsT : ∀ g, sv.ownBlock = some g → g ≠ mT := by
    rintro g hgo rfl
    obtain ⟨es, clock, hm, _⟩ := h.mt
    rcases h.scr.2 with ⟨h1, _⟩ | ⟨g', cap', cur, hv, hb', hh, _⟩
    · rw [h1] at hgo; cases hgo
    · rw [hv] at hgo
      simp only [Value.ownBlock, Option.some.injEq] at hgo
      subst hgo
      rw [hm] at hh
      cases hh
  refine ⟨ho1.blk h.blk hNT, .inl h.fN, .inl h.fT, .inl h.fC, ho1.row h.scr hsT, fun g e => .inl (h.fS g e), hm, ho1.map_ h.mc (fun e => h.tc e.symm), ?_, h.hC, h.tc, h.useLe, ?_, ?_, ?_, ?_, ?_, ?_, ?_, ?_, h.cuts⟩
  · rw [show ((S.with_ b).put b q).keys = (S.with_ b).keys from rfl, with_keys, if_neg hb, List.length_append]
    have := h.hT
    simp only [List.length_cons, List.length_nil]
    omega
  · intro s
    rw [show ((S.with_ b).put b q).keys = (S.with_ b).keys from rfl, with_keys, if_neg hb, List.mem_append, List.mem_singleton]
    by_cases e : s = b
    · subst e
      rw [Maps.has_put_same hmap hkl]
      simp
    · rw [Maps.has_put_other (fun hh => e (kl_inj hh)), h.keys s]
      simp [e]
  · rw [show ((S.with_ b).put b q).keys = (S.with_ b).keys from rfl, with_keys, if_neg hb, List.nodup_append]
    refine ⟨h.nodup, by simp, ?_⟩
    intro x hx y hy
    rw [List.mem_singleton] at hy
    subst hy
    exact hbs x hx
  · intro s hs
    rw [show ((S.with_ b).put b q).keys = (S.with_ b).keys from rfl, with_keys, if_neg hb, List.mem_append, List.mem_singleton] at hs
    rcases hs with hs | rfl
    · exact h.small s hs
    · exact hsb
  · intro s hs
    rw [show ((S.with_ b).put b q).keys = (S.with_ b).keys from rfl, with_keys, if_neg hb, List.mem_append, List.mem_singleton] at hs
    by_cases e : s = b
    · subst e
      rw [Maps.atKey_put_same hmap hkl, if_pos rfl]
    · rw [Maps.atKey_put_other (fun hh => e (kl_inj hh)), if_neg e]
      exact h.at_ s (by simpa [e] using hs)
  · intro s hs
    rw [show ((S.with_ b).put b q).keys = (S.with_ b).keys from rfl, with_keys, if_neg hb, List.mem_append, List.mem_singleton] at hs
    by_cases e : s = b
    · subst e
      simp only [if_true]
      rw [put_at]
      refine ((hq.keep (Only.of_grown (F := (· = mT)) hg (fun k hk => by injection hk with hk; exact hk.symm)) (fun x hx e => ?_))).bound
      have := hG x hx
      omega
    · simp only [if_neg e, NetS.put]
      exact (h.box s (by simpa [e] using hs)).keep ho1 (fun x hx hx' => (h.fq_in s x hx).2.2.2.1 hx')
  · intro s hs
    rw [show ((S.with_ b).put b q).keys = (S.with_ b).keys from rfl, with_keys, if_neg hb, List.mem_append, List.mem_singleton] at hs
    have e : s ≠ b := fun e => hs (.inr e)
    simp only [NetS.put, if_neg e]
    exact h.rest s (fun x => hs (.inl x))
  · intro s x hx
    by_cases e : s = b
    · subst e
      simp only [if_true] at hx
      have hN := h.blk.lt
      have hC := h.mc.lt
      have := hG x hx.1
      refine ⟨.inr hx.1, hx.2, by omega, by omega, by omega, ?_⟩
      intro e
      have := (h.scr.lt x e).2
      omega
    · simp only [if_neg e] at hx
      have := h.fq_in s x hx
      exact ⟨.inl this.1, by omega, this.2.2⟩
  · intro s t x hne hs ht
    by_cases e : s = b
    · have e2 : t ≠ b := fun e2 => hne (e.trans e2.symm)
      simp only [if_pos e] at hs
      simp only [if_neg e2] at ht
      have h1 := hG x hs.1
      have := (h.fq_in t x ht).2.1
      omega
    · simp only [if_neg e] at hs
      by_cases e2 : t = b
      · simp only [if_pos e2] at ht
        have h1 := hG x ht.1
        have := (h.fq_in s x hs).2.1
        omega
      · simp only [if_neg e2] at ht
        exact h.fq_ne s t x hne hs ht

theorem ranges_only {w w' : World} {F : Nat → Prop} {k : TypeId} {R : Value → Option (DataW Unit × List MemPlace)} {b r n : Nat} {D : DataW Unit} {left : Lit → Bool} {cnt : Nat} (h : w.ranges Try.prog k R b r n D left cnt) (ho : Only F w w') (hb' : ¬ F b) (hr' : ¬ F r) : w'.ranges Try.prog k R b r n D left cnt := by
  have h1 := h.owns.lt
  have h2 := h.lt
  obtain ⟨es, clock, since, seen, c0, hb, F, hs, hD, hr, rest⟩ := h
  exact ⟨es, clock, since, seen, c0, (ho.block b h1 hb').trans hb, F, hs, hD, (ho.block r h2 hr').trans hr, rest⟩
theorem made_only {w w2 : World} (ho : Only Nobody (w.alloc (.map #[] 0)) w2) : w2.ownsMap Try.prog 9 ptrElem w.heap.size 0 (.map []) := ho.map_ (World.ownsMap_made (H := Unit) w Try.prog 9 ptrElem) (fun x => x)
/-- The clone under way: its map. -/
def ClnAt (w wx : World) (F : Nat → Prop) (O : Nat) (S : NetS) (m1 n1 : Nat) : Prop := ∃ sv mC nC DT DC box fq, NetParts wx F O S sv m1 mC n1 nC DT DC box fq ∧ ∀ b, F b → w.heap.size ≤ b ∧ b < wx.heap.size
theorem ClnAt.c5 {w wx wy : World} {F : Nat → Prop} {O : Nat} {S : NetS} {m1 n1 : Nat} (h : ClnAt w wx F O S m1 n1) (ho : Only Nobody wx wy) : wy.cell? ⟨O, 5, none⟩ = some (.map (some m1)) ∧ F m1 ∧ w.heap.size ≤ m1 := by
  obtain ⟨sv, mC, nC, DT, DC, box, fq, h, hb⟩ := h
  exact ⟨(ho.blk h.blk (fun x => x)).cell 5, h.fT, (hb _ h.fT).1⟩
def BareMid (w : World) (S : NetS) (v : Value) (wx : World) : Prop := ∃ O m1 F, v = .pointer (some ⟨O, 0, none⟩) ∧ ClnAt w wx F O (S.part []) m1 0 ∧ Only Nobody w wx
theorem ClnAt.keep {w wx wy : World} {F G : Nat → Prop} {O : Nat} {S : NetS} {m1 n1 : Nat} (h : ClnAt w wx F O S m1 n1) (ho : Only G wx wy) (hG : ∀ b, F b → ¬ G b) : ClnAt w wy F O S m1 n1 := by
  obtain ⟨sv, mC, nC, DT, DC, box, fq, h, hb⟩ := h
  refine ⟨sv, mC, nC, DT, DC, box, fq, ?_, fun b hF => ⟨(hb b hF).1, Nat.lt_of_lt_of_le (hb b hF).2 ho.size⟩⟩
  exact { h with
      blk := ho.blk h.blk (hG _ h.fN)
      scr := ho.row h.scr (fun g e => hG g (h.fS g e))
      mt := ho.map_ h.mt (hG _ h.fT)
      mc := ho.map_ h.mc (hG _ h.fC)
      box := fun s hs => (h.box s hs).keep ho (fun b hb => hG b (h.fq_in s b hb).1)
      fq_in := fun s b hb => ⟨(h.fq_in s b hb).1, Nat.lt_of_lt_of_le (h.fq_in s b hb).2.1 ho.size, (h.fq_in s b hb).2.2⟩ }
theorem bare_mid {w X : World} {N : Nat} {F : Nat → Prop} {S : NetS} {sv v : Value} {mT mC nT nC mm m2 : Nat} {DT DC : DataW Unit} {box : ByteArray → Nat} {fq : ByteArray → Nat → Prop} (H : NetParts w F N S sv mT mC nT nC DT DC box fq) (ho : Only Nobody w X)
    (hr : X.ownsRow w.heap.size 5 1 v S.script.length (byteVals S.script)) (h1 : X.ownsMap Try.prog 9 ptrElem mm 0 (.map [])) (h2 : X.ownsMap Try.prog 71 (plainElem Try.prog 4) m2 nC DC) (hm : w.heap.size ≤ mm) (hm2 : w.heap.size ≤ m2) (hne : mm ≠ m2) {O : Nat} (hO : O = X.heap.size) :
    BareMid w S (.pointer (some ⟨O, 0, none⟩)) (X.alloc (.cells #[v, .int .i64 S.now, .int .i64 S.sent, .int .i64 S.lost, .int .i64 S.use, .map (some mm), .map (some m2)] 61)) := by
  have ha : Only Nobody X (X.alloc (.cells #[v, .int .i64 S.now, .int .i64 S.sent, .int .i64 S.lost, .int .i64 S.use, .map (some mm), .map (some m2)] 61)) := (Only.refl _ _).alloc _
  have hs := ho.size
  subst hO
  refine ⟨X.heap.size, mm, fun b => w.heap.size ≤ b ∧ b < X.heap.size + 1, rfl, ⟨v, m2, nC, .map [], DC, fun _ => 0, fun _ _ => False, ⟨Blk.new X _ _, ⟨hs, by omega⟩, ⟨hm, by have := h1.lt; omega⟩, ⟨hm2, by have := h2.lt; omega⟩, own_base (ha.row hr (fun _ _ x => x)) (Nat.zero_le _), fun g e => ⟨(hr.lt g e).1, by have := (hr.lt g e).2; omega⟩, ha.map_ h1 (fun x => x), ha.map_ h2 (fun x => x), Nat.zero_le _, H.hC, hne, H.useLe, ?_, List.nodup_nil, ?_, ?_, ?_, ?_, ?_, ?_, H.cuts⟩, fun b hb => ⟨hb.1, by simp; omega⟩⟩, ho.trans ha⟩
  · intro s
    simp [Maps.has, NetS.part]
  · intro s hs; simp [NetS.part] at hs
  · intro s hs; simp [NetS.part] at hs
  · intro s hs; simp [NetS.part] at hs
  · intro s _; simp [NetS.part]
  · intro s b hb; exact hb.elim
  · intro s t b _ hb; exact hb.elim
/-- A queue cloned and laid into the clone's map. -/
theorem ClnAt.more {w wx w2 : World} {F : Nat → Prop} {O m1 n1 : Nat} {S : NetS} {K : List ByteArray} {x : ByteArray} {v : Value} (h : ClnAt w wx F O (S.part K) m1 n1) (hx : x ∉ K) (hsx : x.size ≤ 64) (ho : Only Nobody wx w2) (hr : w2.ownsRow wx.heap.size 64 5 v (S.qs x).length (cellsOf (S.qs x)))
    (hw : w.heap.size ≤ wx.heap.size) :
    ∃ DT, (w2.alloc (.cells #[v] 66)).ownsMap Try.prog 9 ptrElem m1 n1 DT ∧ (∀ w3 : World, w3.ownsMap Try.prog 9 ptrElem m1 (n1 + 1) (DT.put (kl x) (.lit (.int .i64 w2.heap.size))) → (w2.alloc (.cells #[v] 66)).grownBy w3 (some m1) → ∃ F', ClnAt w w3 F' O (S.part (K ++ [x])) m1 (n1 + 1) ∧ (∀ b, F' b → F b ∨ wx.heap.size ≤ b)) := by
  obtain ⟨sv, mC, nC, DT, DC, box, fq, h, hb⟩ := h
  have ha : Only Nobody w2 (w2.alloc (.cells #[v] 66)) := (Only.refl _ _).alloc _
  have ho2 := ho.trans ha
  refine ⟨DT, ho2.map_ h.mt (fun x => x), fun w3 hm hg => ?_⟩
  have hq : QAt (w2.alloc (.cells #[v] 66)) (fun b => wx.heap.size ≤ b ∧ b < w2.heap.size + 1) w2.heap.size (S.qs x) :=
    ⟨v, Blk.new w2 _ _, own_base (ha.row hr (fun _ _ x => x)) (Nat.zero_le _), ⟨ho.size, by omega⟩, fun g e => ⟨(hr.lt g e).1, by have := (hr.lt g e).2; omega⟩⟩
  obtain ⟨DT', box', fq', h2⟩ := newkey2 h (b := x) hx hsx ho2 hq (fun b hb => hb.1) hm hg
  rw [part_more S K x hx] at h2
  have hsz := hg.size
  have hsz2 := ho2.size
  rw [World.size_alloc] at hsz hsz2
  refine ⟨_, ⟨sv, mC, nC, DT', DC, box', fq', h2, fun b hb' => ?_⟩, fun b hb' => ?_⟩
  · rcases hb' with hb' | hb'
    · have := hb b hb'; omega
    · omega
  · rcases hb' with hb' | hb'
    · exact .inl hb'
    · exact .inr hb'.1
def ClnPost (S : NetS) (w : World) (e : Ending) (w' : World) : Prop := ∃ O F' K, e = .returned (.pointer (some ⟨O, 0, none⟩)) ∧ NetAt w' F' O (S.part K) ∧ (∀ b, F' b → w.heap.size ≤ b) ∧ Only Nobody w w' ∧ (∀ s, s ∈ S.keys ↔ s ∈ K) ∧ K.Nodup

set_option maxRecDepth 100000 in
set_option maxHeartbeats 4000000 in
theorem clone_at (N : Nat) (F : Nat → Prop) (S : NetS) (w : World) (h : NetAt w F N S) (hscr : S.script.length ≤ 140737488355328) (hpd : S.pend ≤ 5000) (hky : S.keys.length ≤ 1000000) :
    Calls Try.prog 31 #[.pointer (some ⟨N, 0, none⟩)] w (ClnPost S w) := by
  obtain ⟨sv, mT, mC, nT, nC, DT, DC, box, fq, h⟩ := h
  have H := Lib.hid h
  obtain ⟨A, cs, hvs⟩ := own_form h.scr
  subst hvs
  obtain ⟨n, HNS⟩ : ∃ n, Hid (S.script.length = n) := ⟨_, Lib.hid rfl⟩
  rw [HNS.out] at hscr
  have HF0 : Hid (∀ w', Only Nobody w w' → w'.cell? ⟨N, 0, none⟩ = some (.slice A n cs) ∧ w'.cell? ⟨N, 1, none⟩ = some (.int .i64 S.now) ∧ w'.cell? ⟨N, 2, none⟩ = some (.int .i64 S.sent) ∧ w'.cell? ⟨N, 3, none⟩ = some (.int .i64 S.lost) ∧ w'.cell? ⟨N, 4, none⟩ = some (.int .i64 S.use) ∧ w'.cell? ⟨N, 6, none⟩ = some (.map (some mC))) := Lib.hid fun w' ho => by
    have hb := ho.blk H.out.blk (fun x => x)
    rw [HNS.out] at hb
    exact ⟨hb.cell 0, hb.cell 1, hb.cell 2, hb.cell 3, hb.cell 4, hb.cell 6⟩
  obtain ⟨c0, c1, c2, c3, c4, c6⟩ := HF0.out _ (Only.refl _ _)
  have HSC : Hid (∀ w', Only Nobody w w' → Calls Try.prog 33 #[.slice A n cs] w' fun e w'' => ∃ v', e = .returned v' ∧ w''.ownsRow w'.heap.size 5 1 v' n (byteVals S.script) ∧ Only Nobody w' w'') := Lib.hid fun w' ho => by
    have hr := ho.row H.out.scr (fun _ _ x => x)
    rw [HNS.out] at hr
    exact clone_scr _ n S.script w' hr hscr HNS.out
  have HMC : Hid (∀ w', Only Nobody w w' → Calls Try.prog 42 #[.map (some mC)] w' fun e w'' => ∃ m, e = .returned (.map (some m)) ∧ w'.heap.size ≤ m ∧ w''.ownsMap Try.prog 71 (plainElem Try.prog 4) m nC DC ∧ Only Nobody w' w'') := Lib.hid fun w' ho => clonem_any _ mC nC DC w' (ho.map_ H.out.mc (fun x => x))
  have hmm := @run_makeMap Try.prog
  have HOW : Hid (Only Nobody w w) := Lib.hid (Only.refl _ _)
  clear h hscr
  go_enter Try.func31, Try.ntmps31
  go_upto_region 3 with fail
  go_cut [3] (fun s wx => BareMid w S s wx)
  case first =>
    go_region_held3 (fun w' => w'.cell? ⟨N, 0, none⟩ = some (.slice A n cs) ∧ w'.cell? ⟨N, 1, none⟩ = some (.int .i64 S.now) ∧ w'.cell? ⟨N, 2, none⟩ = some (.int .i64 S.sent) ∧ w'.cell? ⟨N, 3, none⟩ = some (.int .i64 S.lost) ∧ w'.cell? ⟨N, 4, none⟩ = some (.int .i64 S.use) ∧ w'.cell? ⟨N, 6, none⟩ = some (.map (some mC))) (exact HF0.out _ (by repeat (first | exact HOW.out | exact Only.refl _ _ | refine Only.drew ?_ | refine Only.alloc ?_ _))) (first
      | (go_at_call 33; refine (HSC.out _ (by repeat (first | exact HOW.out | refine Only.drew ?_ | refine Only.alloc ?_ _))).mono ?_; rintro e w1 ⟨v1, rfl, hr1, ho1⟩; obtain ⟨A1, c1', rfl⟩ := own_form hr1; have HR1 := Lib.hid hr1; have HO1 := Lib.hid ho1; have HOW : Hid (Only Nobody w w1) := Lib.hid (Only.trans (by repeat (first | exact HOW.out | refine Only.drew ?_ | refine Only.alloc ?_ _)) ho1); clear hr1 ho1)
      | (go_at_call 42; refine (HMC.out _ (by repeat (first | exact HOW.out | refine Only.drew ?_ | refine Only.alloc ?_ _))).mono ?_; rintro e w2 ⟨m2, rfl, hm1, hm2, ho2⟩; have HM1 := Lib.hid hm1; have HM2 := Lib.hid hm2; have HO2 := Lib.hid ho2; have HOWA := HOW; have HOW : Hid (Only Nobody w w2) := Lib.hid (Only.trans (by repeat (first | exact HOW.out | refine Only.drew ?_ | refine Only.alloc ?_ _)) ho2); clear hm1 hm2 ho2))
    all_goals
      go_wp2_with fail
      go_meet
      have hs1 : w.heap.size ≤ w1.heap.size := HOWA.out.size
      have hz1 := HO1.out.size
      have hz2 := HO2.out.size
      have hl2 := HM2.out.lt
      have hg2 := HM1.out
      simp at hz1 hz2 hg2
      refine bare_mid H.out ?_ ?_ ?_ ?_ ?_ ?_ ?_ ?_
      · repeat (first | exact HOW.out | refine Only.alloc ?_ _)
      · rw [HNS.out]
        refine own_base (Only.row (F := Nobody) (w := w1) ?_ HR1.out (fun _ _ x => x)) (by simp)
        repeat (first | exact Only.refl _ _ | exact HO2.out | refine Only.drew ?_ | refine Only.alloc ?_ _ | refine Only.trans ?_ HO2.out)
      · first
        | exact World.ownsMap_made (H := Unit) w2 Try.prog 9 ptrElem
        | (refine made_only ?_
           repeat (first | exact Only.refl _ _ | exact HO2.out | exact HO1.out | refine Only.drew ?_ | refine Only.alloc ?_ _ | refine Only.trans ?_ HO2.out | refine Only.trans ?_ HO1.out))
      · refine Only.map_ (F := Nobody) (w := w2) ?_ HM2.out (fun x => x)
        repeat (first | exact Only.refl _ _ | refine Only.alloc ?_ _)
      · omega
      · omega
      · omega
      · first | rfl | simp
  case rest =>
    obtain ⟨O, m1, F1, rfl, hcl, hoc⟩ := hcut
    have HCL := Lib.hid hcl
    have HOC := Lib.hid hoc
    have k5 : wc.cell? ⟨N, 5, none⟩ = some (.map (some mT)) := (hoc.blk H.out.blk (fun x => x)).cell 5
    have HMT : Hid (wc.ownsMap Try.prog 9 ptrElem mT nT DT) := Lib.hid (hoc.map_ H.out.mt (fun x => x))
    have hmlt := H.out.mt.lt
    have HSW : Hid (w.heap.size ≤ wc.heap.size) := Lib.hid hoc.size
    clear hcl hoc c0 c1 c2 c3 c4 c6 HOW
    go_wp2_with (at_range; refine wpList_range_own _ rfl _ 58 rfl 9 62 keyS Try.underlying58 ptrElem mT nT DT rfl HMT.out ?_; intro w0 hrg0 hg0 hs0)
    go_frame
    have ho0 : Only Nobody wc w0 := ⟨hg0.os, hg0.tape, hg0.output, hg0.size, fun k hk _ => hg0.block k hk (by simp)⟩
    have HO0 := Lib.hid (HOC.out.trans ho0)
    have HCL0 := Lib.hid (HCL.out.keep ho0 (fun _ _ x => x))
    have HR0 := Lib.hid hrg0
    have HRN : Hid (∀ b, F1 b → b ≠ wc.heap.size) := Lib.hid fun b hb => by
      obtain ⟨_, _, _, _, _, _, _, _, h2⟩ := HCL.out
      have := (h2 b hb).2
      omega
    clear ho0 hrg0 hg0 k5
    go_loopw [4, 5, 6] (fun s4 s5 s6 wr => ∃ (left : Lit → Bool) (cnt n1 : Nat) (K : List ByteArray) (F' : Nat → Prop), wr.ranges Try.prog 9 ptrElem mT wc.heap.size nT DT left cnt ∧ Hid (Only Nobody w wr) ∧ Hid (ClnAt w wr F' O (S.part K) m1 n1) ∧ Hid (∀ b, F' b → b ≠ wc.heap.size) ∧ Hid (∀ s, left (kl s) = true → s ∈ S.keys ∧ s ∉ K) ∧ Hid (∀ s ∈ S.keys, s ∈ K ∨ left (kl s) = true) ∧ Hid (K.Nodup ∧ (∀ s ∈ K, s ∈ S.keys) ∧ n1 ≤ K.length) ∧ Hid (wc.heap.size < wr.heap.size)) (fun _ _ _ wr => wr.rangeLeft mT wc.heap.size)
    case atStart =>
      refine ⟨_, _, 0, [], F1, HR0.out, HO0, HCL0, HRN, Lib.hid (fun s hs => ⟨(H.out.keys s).1 hs, by simp⟩), Lib.hid (fun s hs => .inr ((H.out.keys s).2 hs)), Lib.hid ⟨List.nodup_nil, by simp, Nat.le_refl _⟩, Lib.hid HR0.out.lt⟩
    case round =>
      obtain ⟨left, cnt, n1, K, F', hrg, HO, HC, HFR, HL1, HL2, HKK, HWZ⟩ := hrel
      have HR := Lib.hid hrg
      clear hrg
      go_wp2_with (at_next; refine wpList_next_ranges _ rfl _ rfl 9 keyS ptrElem Value.string ptrOf (fun key l hk => by obtain ⟨s, rfl, _, _⟩ := kl_inv hk; exact ⟨s, rfl⟩) (fun v y hv => ptrElem_of hv) mT wc.heap.size nT DT left cnt rfl HR.out ?_ ?_)
      · intro h0 hl0
        have HL0 := Lib.hid hl0
        clear hl0 h0
        go_wp2
        go_ret
        obtain ⟨sv', mC', nC', DT', DC', box', fq', h1, h2⟩ := HC.out
        refine ⟨O, F', K, rfl, ⟨_, _, _, _, _, _, _, _, _, h1⟩, fun b hb => (h2 b hb).1, HO.out, fun s => ⟨fun hs => ?_, HKK.out.2.1 s⟩, HKK.out.1⟩
        rcases HL2.out s hs with e | e
        · exact e
        · rw [HL0.out] at e; cases e
      · intro x c l y ps w1 cnt1 hkey hlk hyv hat hrg1 hlt hg1 hs1 hen
        obtain ⟨x', hx', rfl, _⟩ := kl_inv hkey
        obtain rfl : x = x' := by injection hx'
        obtain ⟨hxk, hxK⟩ := HL1.out x hlk
        have hbx := H.out.at_ x hxk
        rw [hat] at hbx
        have hcx : ptrOf c = .pointer (some ⟨box x, 0, none⟩) := by
          rw [hbx] at hyv
          rcases ptrElem_inv hyv with ⟨_, h2⟩ | ⟨k', h1, h2⟩
          · omega
          · rw [h1]; congr 3; omega
        rw [hcx] at hen ⊢
        have hor : Only (· = wc.heap.size) wr w1 := Only.of_grown hg1 (fun k hk => by injection hk with hk; exact hk.symm)
        have ho1 : Only Nobody w w1 := HO.out.trans_more (hor.mono (fun k hk => .inr (by rw [hk]; exact HSW.out)))
        have HC1 := Lib.hid (HC.out.keep hor (fun b hb e => HFR.out b hb e))
        obtain ⟨v, hb, hr, _, _⟩ := (H.out.box x hxk).keep ho1 (fun b _ e => e)
        have hv : ∃ A cap, v = .slice A (S.qs x).length cap := own_form hr
        obtain ⟨A, cap, rfl⟩ := hv
        have hbc : w1.cell? ⟨box x, 0, none⟩ = some (.slice A (S.qs x).length cap) := hb.cell 0
        have HRW := Lib.hid hr
        have HQL : Hid ((S.qs x).length ≤ 1000000) := Lib.hid (by have := H.out.qs_le x; omega)
        have HSX : Hid (x.size ≤ 64) := Lib.hid (H.out.small x hxk)
        have HXK := Lib.hid (And.intro hxk hxK)
        have HR1 := Lib.hid hrg1
        have HO1 := Lib.hid ho1
        have HLT : Hid (cnt1 < cnt) := Lib.hid hlt
        have HZ1 : Hid (wc.heap.size < w1.heap.size) := Lib.hid (Nat.lt_of_lt_of_le HWZ.out hor.size)
        clear hkey hlk hyv hat hrg1 hlt hg1 hs1 hbx hcx hx' hr hb ho1 hxk hxK hor
        go_wp2_with fail
        refine (cloneq_any _ (S.qs x) w1 HRW.out HQL.out).mono ?_
        rintro e w2 ⟨v2, rfl, hr2, ho2⟩
        obtain ⟨A2, c2, rfl⟩ := own_form hr2
        have HO2 := Lib.hid ho2
        obtain ⟨DT2, hmt, hnext⟩ := ClnAt.more HC1.out HXK.out.2 HSX.out ho2 hr2 HO1.out.size
        have HMT2 := Lib.hid hmt
        have HNX := Lib.hid hnext
        have HNT : Hid (n1 < maxLen) := Lib.hid (by
          have h1 := nodup_sub K S.keys HKK.out.1 HKK.out.2.1
          have h2 := HKK.out.2.2
          unfold maxLen
          omega)
        have HKX : Hid (x.size ≤ maxLen) := Lib.hid (by have := HSX.out; unfold maxLen; omega)
        obtain ⟨k5, hFm, hm1w⟩ := ClnAt.c5 HC1.out (ho2.alloc (.cells #[.slice A2 (S.qs x).length c2] 66))
        have HOA : Hid (Only Nobody w1 (w2.alloc (.cells #[.slice A2 (S.qs x).length c2] 66))) := Lib.hid (ho2.alloc _)
        have HMR : Hid (m1 ≠ wc.heap.size) := Lib.hid (HFR.out m1 hFm)
        clear hr2 ho2 hmt hnext hFm
        go_wp2_with (at_mapUpdate; refine wpList_mapUpdate_own _ rfl _ _ _ 58 rfl 9 62 keyS Try.underlying58 ptrElem m1 n1 DT2 rfl HMT2.out HNT.out _ _ (kl x) rfl rfl (key_kl HKX.out) _ [] (ptrElem_some _) ?_; intro w3 hown3 hgrow3)
        obtain ⟨F2, hc3, hf3⟩ := HNX.out w3 hown3 hgrow3
        have ho3 : Only (· = m1) w1 w3 := (HOA.out.mono (fun _ x => x.elim)).trans (Only.of_grown hgrow3 (fun k hk => by injection hk with hk; exact hk.symm))
        have HO3 := Lib.hid ho3
        have HC3 := Lib.hid hc3
        have HF3 : Hid (∀ b, F2 b → b ≠ wc.heap.size) := Lib.hid fun b hb => by
          rcases hf3 b hb with e | e
          · exact HFR.out b e
          · have := HZ1.out; omega
        have HR3 := Lib.hid (ranges_only HR1.out ho3 (by omega) (fun e => HMR.out e.symm))
        have HOW3 : Hid (Only Nobody w w3) := Lib.hid (HO1.out.trans_more (ho3.mono (fun k e => .inr (by rw [e]; exact hm1w))))
        have HL13 : Hid (∀ s, (left (kl s) && !(kl s).sameKey (kl x)) = true → s ∈ S.keys ∧ s ∉ K ++ [x]) := Lib.hid fun s hs => by
          simp only [Bool.and_eq_true, Bool.not_eq_true'] at hs
          obtain ⟨h1, h2⟩ := HL1.out s hs.1
          refine ⟨h1, fun h3 => ?_⟩
          rcases List.mem_append.1 h3 with h3 | h3
          · exact h2 h3
          · rw [List.mem_singleton] at h3
            subst h3
            rw [WideAt.sameKey_self (show WideAt.IsKeyLit (kl s) from trivial)] at hs
            cases hs.2
        have HL23 : Hid (∀ s ∈ S.keys, s ∈ K ++ [x] ∨ (left (kl s) && !(kl s).sameKey (kl x)) = true) := Lib.hid fun s hs => by
          by_cases e : s = x
          · exact .inl (List.mem_append.2 (.inr (by simp [e])))
          · rcases HL2.out s hs with h1 | h1
            · exact .inl (List.mem_append.2 (.inl h1))
            · refine .inr ?_
              rw [h1, Maps.sameKey_ne (fun h => e (kl_inj h))]
              rfl
        have HKK3 : Hid ((K ++ [x]).Nodup ∧ (∀ s ∈ K ++ [x], s ∈ S.keys) ∧ n1 + 1 ≤ (K ++ [x]).length) := Lib.hid (by
          refine ⟨?_, fun s hs => ?_, ?_⟩
          · rw [List.nodup_append]
            refine ⟨HKK.out.1, by simp, fun a ha b hb e => ?_⟩
            rw [List.mem_singleton] at hb
            subst hb
            subst e
            exact HXK.out.2 ha
          · rcases List.mem_append.1 hs with h1 | h1
            · exact HKK.out.2.1 s h1
            · rw [List.mem_singleton] at h1
              rw [h1]
              exact HXK.out.1
          · rw [List.length_append, List.length_singleton]
            have := HKK.out.2.2
            omega)
        have HZ3 : Hid (wc.heap.size < w3.heap.size) := Lib.hid (Nat.lt_of_lt_of_le HZ1.out ho3.size)
        clear hown3 hgrow3 hc3 hf3 ho3 k5
        go_roundw
        case rel =>
          first
          | exact ⟨_, cnt1, n1 + 1, K ++ [x], F2, HR3.out, HOW3, HC3, HF3, HL13, HL23, HKK3, HZ3⟩
          | ((repeat apply Exists.intro); exact ⟨⟨_, cnt1, n1 + 1, K ++ [x], F2, HR3.out, HOW3, HC3, HF3, HL13, HL23, HKK3, HZ3⟩, rfl⟩)
        case measure =>
          rw [HR3.out.left_eq, HR.out.left_eq]
          exact HLT.out
end Go.Proofs.Ytbfkmdcjamillaa
