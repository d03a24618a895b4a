/- placeOf and dataOf: what they return. -/
import Derived.Test.YtbfkmdcjamillaaNetA
import Derived.Deep.Cut
import Derived.Deep.CutRange
import Derived.Deep.DeepCutAuto
import Derived.Laws.BytesArg
namespace Go.Proofs.Ytbfkmdcjamillaa
open Go.RowKit

def longP : ByteArray := ⟨([108, 111, 110, 103, 45, 108, 111, 110, 103, 45, 108, 111, 110, 103, 45, 108, 111, 110, 103, 45, 108, 111, 110, 103, 45, 108, 111, 110, 103, 45, 108, 111].append [110, 103, 45, 108, 111, 110, 103, 45, 108, 111, 110, 103, 45, 108, 111, 110, 103, 45, 108, 111, 110, 103, 45, 108, 111, 110, 103, 45, 108, 111, 110, 103, 45]).toArray⟩
def places : Array ByteArray := #[⟨#[97]⟩, ⟨#[98]⟩, ⟨#[115, 105, 110, 107]⟩, ⟨#[100, 46, 49]⟩, ⟨#[]⟩, longP]
/-- The place with a number. -/
def placeS (b : Nat) : ByteArray := places.getD (b % 6) ⟨#[]⟩

def placeVals : Array Value := #[.string ⟨#[97]⟩, .string ⟨#[98]⟩, .string ⟨#[115, 105, 110, 107]⟩, .string ⟨#[100, 46, 49]⟩, .string ⟨#[]⟩, .string longP]
def PlMid (w : World) (s : Value) (wx : World) : Prop := ∃ g, s = .slice (some ⟨g, 0, none⟩) 6 6 ∧ Blk wx g 9 placeVals ∧ Only Nobody w wx

set_option maxRecDepth 100000 in
set_option maxHeartbeats 1000000 in
theorem placeOf_any (b : UInt8) (w : World) : Calls Try.prog 19 #[.int .u8 b.toNat] w fun e w' => e = .returned (.string (placeS b.toNat)) ∧ Only Nobody w w' := by
  have hb : (b.toNat : Int) < 256 := by have := b.toNat_lt; omega
  go_enter Try.func19, Try.ntmps19
  go_upto_region 1 with fail
  go_cut [3] (fun s wx => PlMid w s wx)
  case first =>
    go_wp2_with fail
    go_meet
    exact ⟨_, rfl, Blk.new w 9 _, (Only.refl _ _).alloc _⟩
  case rest =>
    obtain ⟨g, rfl, hblk, ho⟩ := hcut
    have hc : wc.cell? ⟨g, b.toNat % 6, none⟩ = some (.string (placeS b.toNat)) := by
      rw [hblk.cell]
      have h : b.toNat % 6 = 0 ∨ b.toNat % 6 = 1 ∨ b.toNat % 6 = 2 ∨ b.toNat % 6 = 3 ∨ b.toNat % 6 = 4 ∨ b.toNat % 6 = 5 := by omega
      unfold placeS
      rcases h with e | e | e | e | e | e <;> rw [e] <;> rfl
    have HO := Lib.hid ho
    clear ho hblk
    go_wp2_with fail
    go_ret
    exact ⟨rfl, HO.out⟩

theorem place_good (b : UInt8) (h : b.toNat < 4) : placeB (placeS b.toNat) = true := by
  have : b.toNat = 0 ∨ b.toNat = 1 ∨ b.toNat = 2 ∨ b.toNat = 3 := by omega
  rcases this with e | e | e | e <;> rw [e] <;> decide +kernel
theorem placeS_small (n : Nat) : (placeS n).size ≤ 65 := by
  have h : n % 6 = 0 ∨ n % 6 = 1 ∨ n % 6 = 2 ∨ n % 6 = 3 ∨ n % 6 = 4 ∨ n % 6 = 5 := by omega
  unfold placeS
  rcases h with e | e | e | e | e | e <;> rw [e] <;> decide +kernel
theorem placeS_inj {m n : Nat} (hm : m < 4) (hn : n < 4) (h : placeS m = placeS n) : m = n := by
  have h1 : m = 0 ∨ m = 1 ∨ m = 2 ∨ m = 3 := by omega
  have h2 : n = 0 ∨ n = 1 ∨ n = 2 ∨ n = 3 := by omega
  rcases h1 with rfl | rfl | rfl | rfl <;> rcases h2 with rfl | rfl | rfl | rfl <;> first | rfl | (exact absurd h (by decide +kernel))

/-- The data of a number: 'p' and three digits. -/
def dataS (b : Nat) : ByteArray := ⟨#[112, UInt8.ofNat (48 + b / 100), UInt8.ofNat (48 + b / 10 % 10), UInt8.ofNat (48 + b % 10)]⟩

theorem data_conv (b : Nat) (hb : b < 256) (w : World) :
    (convert 26 9 (.slice (some ⟨w.heap.size, 0, none⟩) 4 4)).run Try.prog (w.alloc (.cells #[.int .u8 112, .int .u8 (48 + (b : Int) / 100), .int .u8 (48 + (b : Int) / 10 % 10), .int .u8 (48 + (b : Int) % 10)] 5)) =
      .ok (.string (dataS b)) (w.alloc (.cells #[.int .u8 112, .int .u8 (48 + (b : Int) / 100), .int .u8 (48 + (b : Int) / 10 % 10), .int .u8 (48 + (b : Int) % 10)] 5)) := by
  have e : strOfNums [112, 48 + (b : Int) / 100, 48 + (b : Int) / 10 % 10, 48 + (b : Int) % 10] = dataS b := by
    unfold strOfNums dataS
    have e1 : (48 + (b : Int) / 100).toNat = 48 + b / 100 := by omega
    have e2 : (48 + (b : Int) / 10 % 10).toNat = 48 + b / 10 % 10 := by omega
    have e3 : (48 + (b : Int) % 10).toNat = 48 + b % 10 := by omega
    simp only [List.map_cons, List.map_nil, e1, e2, e3]
    rfl
  rw [← e]
  refine run_convert_bytes_arg (P := Try.prog) _ 26 5 Try.underlying26 Try.underlying5 w.heap.size 0 4 4 [112, 48 + (b : Int) / 100, 48 + (b : Int) / 10 % 10, 48 + (b : Int) % 10] rfl (fun i hi => ?_) 9 Try.underlying9
  rw [World.cell?_alloc_mark, Nat.zero_add]
  have : i = 0 ∨ i = 1 ∨ i = 2 ∨ i = 3 := by omega
  rcases this with rfl | rfl | rfl | rfl <;> rfl

set_option maxRecDepth 100000 in
set_option maxHeartbeats 1000000 in
theorem dataOf_any (b : UInt8) (w : World) : Calls Try.prog 24 #[.int .u8 b.toNat] w fun e w' => e = .returned (.string (dataS b.toNat)) ∧ Only Nobody w w' := by
  have hb : b.toNat < 256 := b.toNat_lt
  have hcv := data_conv b.toNat hb w
  go_enter Try.func24, Try.ntmps24
  go_wp2_with fail
  go_ret
  exact ⟨rfl, (Only.refl _ _).alloc _⟩

theorem dataS_small (n : Nat) : (dataS n).size = 4 := rfl

end Go.Proofs.Ytbfkmdcjamillaa
