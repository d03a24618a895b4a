/- The walks of link, Delays and slices.Clone of bytes. -/
import Derived.Test.YthmndclmecnpmaaDoorWNetR
import Derived.Lib.MinMaxS
import Derived.Lib.LazyBuf
namespace Go.Proofs.YthmndclmecnpmaaDoor.Nw
open Go.RowKit

/-- The key of the link between two places. -/
def linkS (a b : ByteArray) : ByteArray × ByteArray := (Lib.minS a b, Lib.maxS a b)

set_option maxRecDepth 100000 in
theorem linkS_comm (a b : ByteArray) : linkS a b = linkS b a := by
  unfold linkS Lib.minS Lib.maxS
  by_cases h : a.data.toList < b.data.toList
  · have h2 : ¬ b.data.toList < a.data.toList := fun k => absurd (List.lt_trans h k) (List.lt_irrefl _)
    have h3 : ¬ b.data.toList = a.data.toList := fun k => by rw [k] at h; exact absurd h (List.lt_irrefl _)
    simp [h, h2, h3]
  · by_cases h2 : b.data.toList < a.data.toList
    · have h3 : ¬ a.data.toList = b.data.toList := fun k => by rw [k] at h2; exact absurd h2 (List.lt_irrefl _)
      simp [h, h2, h3]
    · have h3 : a.data.toList = b.data.toList := List.le_antisymm (List.not_lt.1 h2) (List.not_lt.1 h)
      have : a = b := WideShapes.bytes_inj h3
      subst this
      rfl

set_option maxRecDepth 100000 in
theorem linkS_cases (a b : ByteArray) : linkS a b = (a, b) ∨ linkS a b = (b, a) := by
  unfold linkS Lib.minS Lib.maxS
  by_cases h : a.data.toList < b.data.toList
  · left; simp [h]
  · by_cases h3 : a.data.toList = b.data.toList
    · left
      have : a = b := WideShapes.bytes_inj h3
      subst this
      simp
    · right; simp [h, h3]

set_option maxRecDepth 100000 in
theorem linkS_inj {a b c d : ByteArray} (h : linkS a b = linkS c d) : (a = c ∧ b = d) ∨ (a = d ∧ b = c) := by
  rcases linkS_cases a b with e | e <;> rcases linkS_cases c d with e' | e' <;> rw [e, e'] at h <;> simp only [Prod.mk.injEq] at h
  · exact .inl h
  · exact .inr h
  · exact .inr ⟨h.2, h.1⟩
  · exact .inl ⟨h.2, h.1⟩

set_option maxRecDepth 100000 in
set_option maxHeartbeats 400000 in
theorem link_any (a b : ByteArray) (w : World) :
    Calls Tryd.prog 57 #[.string a, .string b] w fun e w' => e = .returned (.agg #[.string (linkS a b).1, .string (linkS a b).2]) ∧ Below w.heap.size w w' := by
  have h1 := fun w => Lib.run_min_strs (P := Tryd.prog) w #[9, 9] 9 a b
  have h2 := fun w => Lib.run_max_strs (P := Tryd.prog) w #[9, 9] 9 a b
  go_enter Tryd.func57, Tryd.ntmps57
  go_wp2
  exact bodyPost_ret (v := .agg #[.string (linkS a b).1, .string (linkS a b).2]) (by simp [results, Tryd.results57, go_sem, linkS]) rfl ⟨rfl, by first | exact (Below.refl _ _).alloc (Nat.le_refl _) _ | exact ((((Below.refl _ _).alloc (Nat.le_refl _) _).setCell (by simp) _).setCell (by simp) _)⟩

/-- The delays for a byte. -/
def d0 (b : UInt8) : Int := 1 + (b.toNat : Int) / 4 % 8
def d1 (b : UInt8) : Int := 1 + (b.toNat : Int) / 32
set_option maxHeartbeats 1000000 in
set_option maxRecDepth 100000 in
theorem delays_none (b : UInt8) (h : b.toNat % 4 = 3) (w : World) :
    Calls Tryd.prog 63 #[.int .u8 b.toNat] w fun e w' => e = .returned (.slice none 0 0) ∧ w = w' := by
  have hb : (b.toNat : Int) < 256 := by have := b.toNat_lt; omega
  have hb0 : (0 : Int) ≤ (b.toNat : Int) := by omega
  have h' : (b.toNat : Int) % 4 = 3 := by omega
  clear h
  generalize (b.toNat : Int) = z at *
  have e3 : (z % 4 == 3) = true := by simpa using h'
  clear h'
  go_enter Tryd.func63, Tryd.ntmps63
  go_wp2
  go_ret
  exact ⟨rfl, rfl⟩

set_option maxHeartbeats 1000000 in
set_option maxRecDepth 100000 in
theorem delays_two (b : UInt8) (h : b.toNat % 4 = 2) (w : World) :
    Calls Tryd.prog 63 #[.int .u8 b.toNat] w fun e w' => e = .returned (.slice (some ⟨w.heap.size, 0, none⟩) 2 2) ∧ w.alloc (.cells #[.int .i64 (d0 b), .int .i64 (d1 b)] 3) = w' := by
  have hb : (b.toNat : Int) < 256 := by have := b.toNat_lt; omega
  have hb0 : (0 : Int) ≤ (b.toNat : Int) := by omega
  unfold d0 d1
  have h' : (b.toNat : Int) % 4 = 2 := by omega
  clear h
  generalize (b.toNat : Int) = z at *
  have e3 : (z % 4 == 3) = false := by rw [beq_eq_false_iff_ne]; omega
  have e2 : (z % 4 == 2) = true := by simpa using h'
  clear h'
  go_enter Tryd.func63, Tryd.ntmps63
  go_wp2
  go_ret
  exact ⟨rfl, rfl⟩

set_option maxHeartbeats 1000000 in
set_option maxRecDepth 100000 in
theorem delays_one (b : UInt8) (h : b.toNat % 4 ≠ 3) (h2 : b.toNat % 4 ≠ 2) (w : World) :
    Calls Tryd.prog 63 #[.int .u8 b.toNat] w fun e w' => e = .returned (.slice (some ⟨w.heap.size, 0, none⟩) 1 1) ∧ w.alloc (.cells #[.int .i64 (d0 b)] 3) = w' := by
  have hb : (b.toNat : Int) < 256 := by have := b.toNat_lt; omega
  have hb0 : (0 : Int) ≤ (b.toNat : Int) := by omega
  unfold d0
  have h' : (b.toNat : Int) % 4 ≠ 3 := by omega
  have h2' : (b.toNat : Int) % 4 ≠ 2 := by omega
  clear h h2
  generalize (b.toNat : Int) = z at *
  have e3 : (z % 4 == 3) = false := by rw [beq_eq_false_iff_ne]; exact h'
  have e2 : (z % 4 == 2) = false := by rw [beq_eq_false_iff_ne]; exact h2'
  clear h' h2'
  go_enter Tryd.func63, Tryd.ntmps63
  go_wp2
  go_ret
  exact ⟨rfl, rfl⟩


set_option maxRecDepth 100000 in
theorem infoU8 : (Tryd.prog.info? 5).map (fun i => (i.zero, i.size, i.bytes)) = some (some (.int .u8 0), 1, 1) := by kernel_rfl

set_option maxRecDepth 100000 in
set_option maxHeartbeats 400000 in
theorem clone_nil (w : World) :
    Calls Tryd.prog 52 #[.slice none 0 0] w fun e w' => e = .returned (.slice none 0 0) ∧ w = w' := by
  have hs := fun w => Lib.run_eql_slice_nil (P := Tryd.prog) w 45 5 none 0 0 0 0 Tryd.underlying45
  go_enter Tryd.func52, Tryd.ntmps52
  go_wp2
  go_ret
  exact ⟨rfl, rfl⟩

set_option maxRecDepth 100000 in
theorem run_eql_some_nil {P : Program} (w : World) (t e : TypeId) (ad : Addr) (n c : Nat) (h : P.underlying t = some (.slice e)) : (binOp .eql t (.slice (some ad) n c) (.slice none 0 0)).run P w = .ok (.bool false) w := by
  rw [Lib.run_eql_slice_nil (P := P) w t e (some ad) n c 0 0 h]; rfl

set_option maxRecDepth 100000 in
set_option maxHeartbeats 400000 in
theorem clone_any (ad : Addr) (n c : Nat) (xs : List Value) (w : World) (h : Reads w w.heap.size 1 (some ad) n xs) (h1 : ∀ u ∈ xs, u.oneCell' = true) (hn : n ≤ maxLen) (hb : n * 1 ≤ 140737488355328) :
    Calls Tryd.prog 52 #[.slice (some ad) n c] w fun e w' => ∃ v, e = .returned v ∧ w'.ownsRow w.heap.size 5 1 v n xs ∧ Below w.heap.size w w' := by
  have hs := fun w => run_eql_some_nil (P := Tryd.prog) w 45 5 ad n c Tryd.underlying45
  obtain ⟨i0, hi, hz0, hz1, hz2⟩ := info_parts infoU8
  go_enter Tryd.func52, Tryd.ntmps52
  have hA := Lib.hid (fun o : Obj => h.below (Below.refl _ w |>.alloc (Nat.le_refl _) o))
  have h1' := Lib.hid h1
  clear h h1
  go_wp2_with (at_builtin
               refine wpList_append_any _ rfl (.tmp 5) (.tmp 6) _ rfl w.heap.size 5 i0 _ 1 1 Tryd.underlying45 hi hz0 hz1 hz2 rfl (by omega) (.slice (some ⟨w.heap.size, 0, none⟩) 0 0) 0 [] rfl ⟨rfl, .inr ⟨w.heap.size, 0, #[], rfl, Nat.le_refl _, heap_alloc_new w _, Nat.le_refl _, by simp [maxLen], rfl, rfl⟩⟩ w.heap.size (some ad) n c xs rfl (hA.out _) h1'.out (by omega) (by omega) (by simp) ?_
               intro v1 w1 hown1 hg1 hat1
               have HO1 := Lib.hid hown1
               have HG1 := Lib.hid hg1
               clear hown1 hg1 hat1)
  go_ret
  refine ⟨v1, rfl, ?_, ?_⟩
  · have := HO1.out
    simpa using this
  · refine ((Below.refl _ w).alloc (Nat.le_refl _) _).grown HG1.out (by simp) ?_
    rintro k hk
    simp only [Value.ownBlock, Option.some.injEq] at hk
    omega

end Go.Proofs.YthmndclmecnpmaaDoor.Nw
