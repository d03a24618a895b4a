/- Network: the law's model of a network in memory; its place, cut (printed by gen_lka.py). -/
import Derived.Test.YtbfkmdcjamillaaRunP
import Derived.Test.YtbfkmdcjamillaaOpsW
import Derived.Test.YtbfkmdcjamillaaRow
namespace Go.Proofs.Ytbfkmdcjamillaa
open Go.RowKit
attribute [local go_sem ↓] Go.wp_at_zero Go.wp_at_succ

def pcCells (p : Pc) : List Value := [.int .i64 p.at_, .string p.fr, .string p.to_, .string p.da]
def pcC (l : List Pc) : List Value := l.flatMap pcCells
def ctCells (c : ByteArray × ByteArray) : List Value := [.string c.1, .string c.2]
def ctC (l : List (ByteArray × ByteArray)) : List Value := l.flatMap ctCells
theorem flat_get {α : Type} (f : α → List Value) (n : Nat) (hf : ∀ x, (f x).length = n) : ∀ (l : List α) (i t : Nat) (y : α), l[i]? = some y → t < n → (l.flatMap f)[i * n + t]? = (f y)[t]?
  | [], i, t, y, h, _ => by simp at h
  | z :: l, 0, t, y, h, ht => by
    simp only [List.getElem?_cons_zero, Option.some.injEq] at h
    subst h
    rw [List.flatMap_cons, Nat.zero_mul, Nat.zero_add, List.getElem?_append_left (by rw [hf]; exact ht)]
  | z :: l, i + 1, t, y, h, ht => by
    have e : (i + 1) * n = i * n + n := Nat.succ_mul i n
    rw [List.flatMap_cons, List.getElem?_append_right (by rw [hf, e]; omega), hf, e, show i * n + n + t - n = i * n + t by omega]
    exact flat_get f n hf l i t y (by simpa using h) ht
theorem flat_len {α : Type} (f : α → List Value) (n : Nat) (hf : ∀ x, (f x).length = n) : ∀ l : List α, (l.flatMap f).length = l.length * n
  | [] => by simp
  | z :: l => by rw [List.flatMap_cons, List.length_append, hf, flat_len f n hf l, List.length_cons, Nat.succ_mul]; omega
theorem pcC_len (l : List Pc) : (pcC l).length = l.length * 4 := flat_len pcCells 4 (fun _ => rfl) l
theorem ctC_len (l : List (ByteArray × ByteArray)) : (ctC l).length = l.length * 2 := flat_len ctCells 2 (fun _ => rfl) l

/-- A model of a network in state L lies at block M; its script, pieces, cuts in the slices vs, vp, vc. -/
structure LkAt (w : World) (M : Nat) (L : LinkS) (vs vp vc : Value) : Prop where
  blk : Blk w M 49 #[vs, .int .i64 L.now, .int .i64 L.sent, .int .i64 L.lost, vp, vc]
  scr : w.ownsRow 0 5 1 vs L.script.length (byteVals L.script)
  pcs : w.ownsRow 0 85 4 vp L.pcs.length (pcC L.pcs)
  cts : w.ownsRow 0 71 2 vc L.cuts.length (ctC L.cuts)
def OwnL (M : Nat) (vs vp vc : Value) (k : Nat) : Prop := k = M ∨ vs.ownBlock = some k ∨ vp.ownBlock = some k ∨ vc.ownBlock = some k
def NewOf (v v' : Value) (w : World) : Prop := ∀ k, v'.ownBlock = some k → v.ownBlock = some k ∨ w.heap.size ≤ k
theorem row_type {w : World} {base : Nat} {e : TypeId} {size n : Nat} {v : Value} {xs : List Value} (h : w.ownsRow base e size v n xs) {k : Nat} (hk : v.ownBlock = some k) : ∃ cs, Blk w k e cs := by
  rcases h.2 with ⟨rfl, _⟩ | ⟨g, cap, cur, rfl, _, hg, _⟩
  · cases hk
  · simp only [Value.ownBlock, Option.some.injEq] at hk
    subst hk
    exact ⟨cur, hg⟩
theorem own_form {w : World} {base : Nat} {e : TypeId} {size n : Nat} {v : Value} {xs : List Value} (h : w.ownsRow base e size v n xs) : ∃ A c, v = .slice A n c := by
  rcases h.2 with ⟨rfl, h0⟩ | ⟨g, cap, cur, rfl, _⟩
  · exact ⟨none, 0, by rw [h0]⟩
  · exact ⟨_, _, rfl⟩
section
variable {w w' : World} {M : Nat} {L : LinkS} {vs vp vc : Value}
theorem LkAt.keep (h : LkAt w M L vs vp vc) {F : Nat → Prop} (ho : Only F w w') (hF : ∀ k, OwnL M vs vp vc k → ¬ F k) : LkAt w' M L vs vp vc :=
  ⟨ho.blk h.blk (hF M (.inl rfl)), ho.row h.scr (fun g e => hF g (.inr (.inl e))), ho.row h.pcs (fun g e => hF g (.inr (.inr (.inl e)))), ho.row h.cts (fun g e => hF g (.inr (.inr (.inr e))))⟩
theorem LkAt.same (h : LkAt w M L vs vp vc) (ho : Only Nobody w w') : LkAt w' M L vs vp vc := h.keep ho (fun _ _ x => x)
theorem LkAt.lt (h : LkAt w M L vs vp vc) : ∀ k, OwnL M vs vp vc k → k < w.heap.size := by
  rintro k (rfl | e | e | e)
  · exact h.blk.lt
  · exact (h.scr.lt k e).2
  · exact (h.pcs.lt k e).2
  · exact (h.cts.lt k e).2
theorem LkAt.neS (h : LkAt w M L vs vp vc) : vs.ownBlock ≠ some M := fun e => by
  obtain ⟨cs, hb⟩ := row_type h.scr e
  exact Blk.ne_ hb h.blk (by decide) rfl
theorem LkAt.neP (h : LkAt w M L vs vp vc) : vp.ownBlock ≠ some M := fun e => by
  obtain ⟨cs, hb⟩ := row_type h.pcs e
  exact Blk.ne_ hb h.blk (by decide) rfl
theorem LkAt.neC (h : LkAt w M L vs vp vc) : vc.ownBlock ≠ some M := fun e => by
  obtain ⟨cs, hb⟩ := row_type h.cts e
  exact Blk.ne_ hb h.blk (by decide) rfl
theorem LkAt.neSP (h : LkAt w M L vs vp vc) {k : Nat} (e : vs.ownBlock = some k) : vp.ownBlock ≠ some k := fun e2 => by
  obtain ⟨cs, hb⟩ := row_type h.scr e
  obtain ⟨cs2, hb2⟩ := row_type h.pcs e2
  exact Blk.ne_ hb hb2 (by decide) rfl
theorem LkAt.neSC (h : LkAt w M L vs vp vc) {k : Nat} (e : vs.ownBlock = some k) : vc.ownBlock ≠ some k := fun e2 => by
  obtain ⟨cs, hb⟩ := row_type h.scr e
  obtain ⟨cs2, hb2⟩ := row_type h.cts e2
  exact Blk.ne_ hb hb2 (by decide) rfl
theorem LkAt.nePC (h : LkAt w M L vs vp vc) {k : Nat} (e : vp.ownBlock = some k) : vc.ownBlock ≠ some k := fun e2 => by
  obtain ⟨cs, hb⟩ := row_type h.pcs e
  obtain ⟨cs2, hb2⟩ := row_type h.cts e2
  exact Blk.ne_ hb hb2 (by decide) rfl
end

/-- The number that cut returns. -/
def cutN (L : LinkS) (a b : ByteArray) : Int := match L.cutI a b with | some k => (k : Int) | none => -1
theorem cutN_at {L : LinkS} {a b : ByteArray} {k : Nat} {c : ByteArray × ByteArray} (hc : L.cuts[k]? = some c) (he : hitB a b c = true) (hb : ∀ x ∈ L.cuts.take k, hitB a b x = false) : cutN L a b = (k : Int) := by
  have hk : k < L.cuts.length := (List.getElem?_eq_some_iff.1 hc).1
  have hyy : L.cuts[k] = c := by rw [List.getElem?_eq_getElem hk] at hc; exact Option.some.inj hc
  have : L.cutI a b = some k := by
    unfold LinkS.cutI
    rw [List.findIdx?_eq_some_iff_getElem]
    refine ⟨hk, by rw [hyy]; exact he, fun j hj => ?_⟩
    have := hb L.cuts[j] (List.mem_take_iff_getElem.2 ⟨j, by omega, rfl⟩)
    simpa using this
  unfold cutN
  rw [this]
theorem cutN_none {L : LinkS} {a b : ByteArray} (hb : ∀ x ∈ L.cuts, hitB a b x = false) : cutN L a b = -1 := by
  have : L.cutI a b = none := by
    unfold LinkS.cutI
    rw [List.findIdx?_eq_none_iff]
    intro x hx
    simpa using hb x hx
  unfold cutN
  rw [this]
theorem take_hit {L : LinkS} {a b : ByteArray} {k : Nat} {c : ByteArray × ByteArray} (hc : L.cuts[k]? = some c) (he : hitB a b c = false) (hb : ∀ x ∈ L.cuts.take k, hitB a b x = false) : ∀ x ∈ L.cuts.take (k + 1), hitB a b x = false := by
  have hk : k < L.cuts.length := (List.getElem?_eq_some_iff.1 hc).1
  have hyy : L.cuts[k] = c := by rw [List.getElem?_eq_getElem hk] at hc; exact Option.some.inj hc
  intro x hx
  rw [List.take_succ_eq_append_getElem hk, hyy, List.mem_append] at hx
  rcases hx with hx | hx
  · exact hb x hx
  · rw [List.mem_singleton.1 hx]; exact he
theorem eq_list (x a : ByteArray) : (x.toList == a.toList) = decide (x = a) := by
  by_cases h : x = a
  · subst h; simp
  · rw [decide_eq_false h]
    simpa using str_ne h
theorem hit_of {a b : ByteArray} {c : ByteArray × ByteArray} {p q r s : Bool} (hp : (c.1.toList == a.toList) = p) (hq : (c.2.toList == b.toList) = q) (hr : (c.1.toList == b.toList) = r) (hs : (c.2.toList == a.toList) = s) : hitB a b c = ((p && q) || (r && s)) := by
  rw [eq_list] at hp hq hr hs
  rw [← hp, ← hq, ← hr, ← hs, Bool.eq_iff_iff, hit_iff]
  simp

set_option maxHeartbeats 400000 in
theorem mplace_any (s : ByteArray) (w : World) (hz : s.size ≤ maxLen) :
    Calls Try.prog 46 #[.string s] w fun e w' => e = .returned (.bool (placeB s)) ∧ w = w' := by
  unfold maxLen at hz
  have hsI : (s.size : Int) ≤ 9223372036854775807 := by omega
  by_cases h : s.size < 1
  · have HF : Hid (false = placeB s) := Lib.hid (by unfold placeB; rw [decide_eq_false (show ¬ 0 < s.size by omega)]; rfl)
    have h1 : (s.size : Int) < 1 := by omega
    clear h hz
    go_enter Try.func46, Try.ntmps46
    go_wp2
    go_ret
    exact ⟨ret_bool HF.out, rfl⟩
  · have h1 : (1 : Int) ≤ (s.size : Int) := by omega
    by_cases h2 : s.size ≤ 64
    · have HF : Hid (true = placeB s) := Lib.hid (by unfold placeB; rw [decide_eq_true (show 0 < s.size by omega), decide_eq_true h2]; rfl)
      have h3 : (s.size : Int) ≤ 64 := by omega
      clear h hz h2
      go_enter Try.func46, Try.ntmps46
      go_wp2
      go_ret
      first | exact ⟨ret_bool HF.out, rfl⟩ | (refine ⟨?_, rfl⟩; rw [← HF.out]; simp; omega)
    · have HF : Hid (false = placeB s) := Lib.hid (by unfold placeB; rw [decide_eq_false h2]; simp)
      have h3 : ¬ (s.size : Int) ≤ 64 := by omega
      clear h hz h2
      go_enter Try.func46, Try.ntmps46
      go_wp2
      go_ret
      first | exact ⟨ret_bool HF.out, rfl⟩ | (refine ⟨?_, rfl⟩; rw [← HF.out]; simp; omega)

set_option maxRecDepth 100000 in
set_option maxHeartbeats 2000000 in
theorem mcut_any (M : Nat) (L : LinkS) (vs vp vc : Value) (a b : ByteArray) (w : World) (h : LkAt w M L vs vp vc) (hl : L.cuts.length ≤ 5000) : Calls Try.prog 41 #[.pointer (some ⟨M, 0, none⟩), .string a, .string b] w fun e w' => e = .returned (.int .i64 (cutN L a b)) ∧ Only Nobody w w' := by
  have HO := Lib.hid h
  obtain ⟨N, HN⟩ : ∃ N, Hid (L.cuts.length = N) := ⟨_, Lib.hid rfl⟩
  obtain ⟨A, c, rfl⟩ := own_form h.cts
  have HK : Hid (∀ w', Only Nobody w w' → w'.cell? ⟨M, 5, none⟩ = some (.slice A N c)) := Lib.hid fun w' ho => by
    have := (HO.out.same ho).blk.cell 5
    rw [HN.out] at this
    exact this
  rw [HN.out] at hl
  clear h
  go_enter Try.func41, Try.ntmps41
  go_wp2_with fail
  go_loopw [7] (fun i wx => ∃ k : Nat, i = .int .i64 (k : Int) ∧ k ≤ N ∧ Hid (∀ x ∈ L.cuts.take k, hitB a b x = false) ∧ Hid (Only Nobody w wx)) (fun i _ => N - (intOf i).toNat)
  case atStart => exact ⟨0, rfl, Nat.zero_le _, Lib.hid (by simp), Lib.hid (Only.refl _ _)⟩
  case round =>
    obtain ⟨k, rfl, hk, HB, HW⟩ := hrel
    have k1 := HK.out _ HW.out
    by_cases hkm : k < N
    · have hkI : (k : Int) < (N : Int) := by omega
      have hk0 : (0 : Int) ≤ (k : Int) := by omega
      obtain ⟨y, hy⟩ : ∃ y, L.cuts[k]? = some y := ⟨_, List.getElem?_eq_getElem (by rw [HN.out]; omega)⟩
      have HY := Lib.hid hy
      have hcl := RowAt.of_own (HO.out.same HW.out).cts
      rw [HN.out] at hcl
      obtain ⟨g, o, c', hv, _, hgl, _, hcc, _⟩ := hcl.cell (by omega)
      injection hv with hv1 hv2 hv3
      subst hv1; subst hv3
      have c0 : wr.cell? ⟨g, o + k * 2, none⟩ = some (.string y.1) := hcc (k * 2 + 0) _ (flat_get ctCells 2 (fun _ => rfl) _ k 0 y hy (by omega))
      have c1 : wr.cell? ⟨g, o + k * 2 + 1, none⟩ = some (.string y.2) := hcc (k * 2 + 1) _ (flat_get ctCells 2 (fun _ => rfl) _ k 1 y hy (by omega))
      obtain ⟨y1, y2⟩ := y
      obtain ⟨p, hp⟩ : ∃ p, (y1.toList == a.toList) = p := ⟨_, rfl⟩
      obtain ⟨q, hq⟩ : ∃ q, (y2.toList == b.toList) = q := ⟨_, rfl⟩
      obtain ⟨r, hr⟩ : ∃ r, (y1.toList == b.toList) = r := ⟨_, rfl⟩
      obtain ⟨s, hs⟩ : ∃ s, (y2.toList == a.toList) = s := ⟨_, rfl⟩
      have HH := Lib.hid (hit_of (c := (y1, y2)) hp hq hr hs)
      clear hcc hcl hy
      cases p with
      | true =>
        cases q with
        | true =>
          have HF : Hid (cutN L a b = (k : Int)) := Lib.hid (cutN_at HY.out (HH.out.trans (by simp)) HB.out)
          go_wp2_with fail
          go_ret
          exact ⟨ret_int HF.out.symm, HW.out.alloc _⟩
        | false =>
          cases r with
          | false =>
            have HBS := Lib.hid (take_hit HY.out (HH.out.trans (by simp)) HB.out)
            go_wp2_with fail
            go_roundw
            case rel =>
              first
              | exact ⟨k + 1, by go_num, by omega, HBS, Lib.hid (HW.out.alloc _)⟩
              | ((repeat apply Exists.intro); exact ⟨⟨k + 1, by go_num, by omega, HBS, Lib.hid (HW.out.alloc _)⟩, rfl⟩)
            case measure => simp [intOf]; omega
          | true =>
            cases s with
            | true =>
              have HF : Hid (cutN L a b = (k : Int)) := Lib.hid (cutN_at HY.out (HH.out.trans (by simp)) HB.out)
              go_wp2_with fail
              go_ret
              exact ⟨ret_int HF.out.symm, HW.out.alloc _⟩
            | false =>
              have HBS := Lib.hid (take_hit HY.out (HH.out.trans (by simp)) HB.out)
              go_wp2_with fail
              go_roundw
              case rel =>
                first
                | exact ⟨k + 1, by go_num, by omega, HBS, Lib.hid (HW.out.alloc _)⟩
                | ((repeat apply Exists.intro); exact ⟨⟨k + 1, by go_num, by omega, HBS, Lib.hid (HW.out.alloc _)⟩, rfl⟩)
              case measure => simp [intOf]; omega
      | false =>
        cases r with
        | false =>
          have HBS := Lib.hid (take_hit HY.out (HH.out.trans (by simp)) HB.out)
          go_wp2_with fail
          go_roundw
          case rel =>
            first
            | exact ⟨k + 1, by go_num, by omega, HBS, Lib.hid (HW.out.alloc _)⟩
            | ((repeat apply Exists.intro); exact ⟨⟨k + 1, by go_num, by omega, HBS, Lib.hid (HW.out.alloc _)⟩, rfl⟩)
          case measure => simp [intOf]; omega
        | true =>
          cases s with
          | true =>
            have HF : Hid (cutN L a b = (k : Int)) := Lib.hid (cutN_at HY.out (HH.out.trans (by simp)) HB.out)
            go_wp2_with fail
            go_ret
            exact ⟨ret_int HF.out.symm, HW.out.alloc _⟩
          | false =>
            have HBS := Lib.hid (take_hit HY.out (HH.out.trans (by simp)) HB.out)
            go_wp2_with fail
            go_roundw
            case rel =>
              first
              | exact ⟨k + 1, by go_num, by omega, HBS, Lib.hid (HW.out.alloc _)⟩
              | ((repeat apply Exists.intro); exact ⟨⟨k + 1, by go_num, by omega, HBS, Lib.hid (HW.out.alloc _)⟩, rfl⟩)
            case measure => simp [intOf]; omega
    · obtain rfl : k = N := by omega
      have HF : Hid (cutN L a b = -1) := Lib.hid (cutN_none (by have := HB.out; rw [List.take_of_length_le (by rw [HN.out]; omega)] at this; exact this))
      go_wp2_with fail
      go_ret
      exact ⟨ret_int HF.out.symm, HW.out⟩
end Go.Proofs.Ytbfkmdcjamillaa
