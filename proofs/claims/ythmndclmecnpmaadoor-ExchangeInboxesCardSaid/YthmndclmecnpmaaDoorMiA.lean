/- Exchange: the model's inbox in memory; contracts of its find, receive. -/
import Derived.Test.YthmndclmecnpmaaDoorMoA
import Derived.Test.YthmndclmecnpmaaDoorMoC
namespace Go.Proofs.YthmndclmecnpmaaDoor
open Go.RowKit
attribute [local go_sem ↓] Go.wp_at_zero Go.wp_at_succ

/-- A model of an inbox in state m lies at block M, its items in the slice v. -/
structure MiAt (w : World) (M : Nat) (m : MIn) (v : Value) : Prop where
  blk : Blk w M 31 #[.int .i64 m.taken, v]
  row : w.ownsRow 0 36 2 v m.l.length (itsC m.l)
theorem MiAt.ne_ {w : World} {M : Nat} {m : MIn} {v : Value} (h : MiAt w M m v) : v.ownBlock ≠ some M := by
  intro e
  rcases h.row.2 with ⟨rfl, _⟩ | ⟨g, cap, cur, rfl, _, hg, _⟩
  · cases e
  · simp only [Value.ownBlock, Option.some.injEq] at e
    subst e
    exact Blk.ne_ (t := 36) hg h.blk (by decide) rfl
theorem MiAt.keep {w w' : World} {M : Nat} {m : MIn} {v : Value} (h : MiAt w M m v) {F : Nat → Prop} (ho : Only F w w') (hF : ∀ k, OwnO M v k → ¬ F k) : MiAt w' M m v :=
  ⟨ho.blk h.blk (hF M (.inl rfl)), ho.row h.row (fun g e => hF g (.inr e))⟩
theorem MiAt.same {w w' : World} {M : Nat} {m : MIn} {v : Value} (h : MiAt w M m v) (ho : Only Nobody w w') : MiAt w' M m v := h.keep ho (fun _ _ x => x)
theorem MiAt.lt {w : World} {M : Nat} {m : MIn} {v : Value} (h : MiAt w M m v) : ∀ k, OwnO M v k → k < w.heap.size := by
  rintro k (rfl | e)
  · exact h.blk.lt
  · exact (h.row.lt k e).2

/-- What find returns. -/
def findI (m : MIn) (n : Int) : Int := match m.idx n with | some k => (k : Int) | none => -1
theorem findI_at {m : MIn} {n : Int} {k : Nat} {y : It} (hy : m.l[k]? = some y) (he : y.n = n) (hb : ∀ x ∈ m.l.take k, x.n ≠ n) : findI m n = (k : Int) := by
  have hk : k < m.l.length := (List.getElem?_eq_some_iff.1 hy).1
  have hyy : m.l[k] = y := by rw [List.getElem?_eq_getElem hk] at hy; exact Option.some.inj hy
  have : m.idx n = some k := by
    unfold MIn.idx
    rw [List.findIdx?_eq_some_iff_getElem]
    refine ⟨hk, by rw [hyy]; simpa using he, fun j hj => ?_⟩
    have := hb m.l[j] (List.mem_take_iff_getElem.2 ⟨j, by omega, rfl⟩)
    simpa using this
  unfold findI
  rw [this]
theorem findI_none {m : MIn} {n : Int} (hb : ∀ x ∈ m.l, x.n ≠ n) : findI m n = -1 := by
  have : m.idx n = none := by
    unfold MIn.idx
    rw [List.findIdx?_eq_none_iff]
    intro x hx
    simpa using hb x hx
  unfold findI
  rw [this]
set_option maxRecDepth 100000 in
set_option maxHeartbeats 2000000 in
theorem find_mi (M : Nat) (m : MIn) (v : Value) (n : Int) (w : World) (h : MiAt w M m v) (hl : m.l.length ≤ 5000) : Calls Tryd.prog 45 #[.pointer (some ⟨M, 0, none⟩), .int .i64 n] w fun e w' => e = .returned (.int .i64 (findI m n)) ∧ w = w' := by
  have HO := Lib.hid h
  obtain ⟨N, HN⟩ : ∃ N, Hid (m.l.length = N) := ⟨_, Lib.hid rfl⟩
  obtain ⟨A, c, rfl⟩ := own_form h.row
  have k1 : w.cell? ⟨M, 1, none⟩ = some (.slice A N c) := by rw [← HN.out]; exact h.blk.cell 1
  rw [HN.out] at hl
  clear h
  go_enter Tryd.func45, Tryd.ntmps45
  go_wp2_with fail
  go_loop [5] (fun i => ∃ k : Nat, i = .int .i64 (k : Int) ∧ k ≤ N ∧ Hid (∀ x ∈ m.l.take k, x.n ≠ n)) (fun i => N - (intOf i).toNat)
  case atStart => exact ⟨0, rfl, Nat.zero_le _, Lib.hid (by simp)⟩
  case round =>
    obtain ⟨k, rfl, hk, HB⟩ := hrel
    by_cases hkm : k < N
    · have hkI : (k : Int) < (N : Int) := by omega
      have hk0 : (0 : Int) ≤ (k : Int) := by omega
      obtain ⟨y, hy⟩ : ∃ y, m.l[k]? = some y := ⟨_, List.getElem?_eq_getElem (by rw [HN.out]; omega)⟩
      have HY := Lib.hid hy
      have hcl := RowAt.of_own HO.out.row
      rw [HN.out] at hcl
      obtain ⟨g, o, c', hv, _, hgl, _, hcc, _⟩ := hcl.cell (by omega)
      injection hv with hv1 hv2 hv3
      subst hv1; subst hv3
      have c0 : w.cell? ⟨g, o + k * 2, none⟩ = some (.int .i64 y.n) := hcc (k * 2) _ ((itsC_get _ k 0 y hy (by omega)).trans rfl)
      clear hcc hcl hy
      by_cases he : y.n = n
      · have HF : Hid (findI m n = (k : Int)) := Lib.hid (findI_at HY.out he HB.out)
        go_wp2_with fail
        go_ret
        exact ⟨ret_int HF.out.symm, rfl⟩
      · have HBS : Hid (∀ x ∈ m.l.take (k + 1), x.n ≠ n) := Lib.hid (fun x hx => by
          have hk := (List.getElem?_eq_some_iff.1 HY.out).1
          have hyy : m.l[k] = y := by have hy := HY.out; rw [List.getElem?_eq_getElem hk] at hy; exact Option.some.inj hy
          rw [List.take_succ_eq_append_getElem hk, hyy, List.mem_append] at hx
          rcases hx with hx | hx
          · exact HB.out x hx
          · rw [List.mem_singleton.1 hx]; exact he)
        go_wp2_with fail
        go_round
        case rel =>
          first
          | exact ⟨k + 1, by go_num, by omega, HBS⟩
          | ((repeat apply Exists.intro); exact ⟨⟨k + 1, by go_num, by omega, HBS⟩, rfl⟩)
        case measure => simp [intOf]; omega
    · obtain rfl : k = N := by omega
      have HF : Hid (findI m n = -1) := Lib.hid (findI_none (by have := HB.out; rw [List.take_of_length_le (by rw [HN.out]; omega)] at this; exact this))
      go_wp2_with fail
      go_ret
      exact ⟨ret_int HF.out.symm, rfl⟩
end Go.Proofs.YthmndclmecnpmaaDoor
