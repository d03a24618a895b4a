/- Exchange: the laws ExchangeDecodes, ExchangePackets. -/
import Derived.Test.YthmndclmecnpmaaDoorDecB
import Derived.Test.YthmndclmecnpmaaDoorExK
namespace Go.Proofs.YthmndclmecnpmaaDoor
open Go.RowKit
attribute [local go_sem ↓] Go.wp_at_zero Go.wp_at_succ

theorem ext300 (s : ByteArray) : (s.extract 0 (min (s.size : Int) 300).toNat).size ≤ 100000 := by
  rw [ByteArray.size_extract]; omega
set_option maxRecDepth 100000 in
set_option maxHeartbeats 4000000 in
theorem lawDec (s : ByteArray) (w : World) (h : Std w) : Calls Tryd.prog 9 #[.string s] w fun e w' => e = .returned (.bool true) ∧ Only Nobody w w' := by
  have HS := Lib.hid h
  have HZ := Lib.hid (ext300 s)
  clear h
  go_enter Tryd.func9, Tryd.ntmps9
  go_wp2_with fail
  generalize s.extract 0 (min (s.size : Int) 300).toNat = t at HZ ⊢
  refine (decode_any t HZ.out w HS.out).mono ?_
  rintro e w1 ⟨hd, ho1⟩
  have HO1 := Lib.hid ho1
  clear ho1
  rcases hd with ⟨hok, rfl⟩ | ⟨hno, rfl⟩
  · have HOK := Lib.hid hok
    obtain ⟨p, HP⟩ : ∃ p, Hid (decP t = p) := ⟨_, Lib.hid rfl⟩
    have HE1 : Hid (pErr p = 0) := Lib.hid (by rw [← HP.out]; exact hok.2.1)
    have HE2 : Hid (pEnc p = t) := Lib.hid (by rw [← HP.out]; exact hok.2.2)
    rw [HP.out]
    clear hok
    have HB : Hid (Blk (w1.alloc (.cells (pkC p) 49)) w1.heap.size 49 (pkC p)) := Lib.hid (Blk.new w1 _ _)
    have HOA : Hid (Only Nobody w (w1.alloc (.cells (pkC p) 49))) := Lib.hid (HO1.out.alloc _)
    go_wp2_with fail
    refine (known_any _ (HS.out.same HOA.out).tab).mono ?_
    rintro e w2 ⟨rfl, ho2⟩
    have hb2 := ho2.blk HB.out (fun x => x)
    have HB2 := Lib.hid hb2
    have HO2 := Lib.hid (HOA.out.trans ho2)
    have c0 : w2.cell? ⟨w1.heap.size, 0, none⟩ = some (.int .i64 p.kind) := hb2.cell 0
    have c1 : w2.cell? ⟨w1.heap.size, 1, none⟩ = some (.string p.name) := hb2.cell 1
    have c2 : w2.cell? ⟨w1.heap.size, 2, none⟩ = some (.int .i64 p.num) := hb2.cell 2
    have c3 : w2.cell? ⟨w1.heap.size, 3, none⟩ = some (.string p.text) := hb2.cell 3
    clear ho2 hb2
    go_wp2_with fail
    refine (checked_any p _).mono ?_
    rw [HE1.out]
    rintro e w3 ⟨rfl, ho3⟩
    have hb3 := ho3.blk HB2.out (fun x => x)
    have HO3 := Lib.hid (HO2.out.trans ho3)
    have d0 : w3.cell? ⟨w1.heap.size, 0, none⟩ = some (.int .i64 p.kind) := hb3.cell 0
    have d1 : w3.cell? ⟨w1.heap.size, 1, none⟩ = some (.string p.name) := hb3.cell 1
    have d2 : w3.cell? ⟨w1.heap.size, 2, none⟩ = some (.int .i64 p.num) := hb3.cell 2
    have d3 : w3.cell? ⟨w1.heap.size, 3, none⟩ = some (.string p.text) := hb3.cell 3
    clear ho3 hb3 c0 c1 c2 c3
    go_wp2_with fail
    refine (encoded_any p _ HE1.out).mono ?_
    rw [HE2.out]
    rintro e w4 ⟨rfl, ho4⟩
    have HO4 := Lib.hid (HO3.out.trans ho4)
    clear ho4
    go_wp2_with fail
    go_ret
    exact ⟨rfl, HO4.out⟩
  · clear hno
    have HB : Hid (Blk (w1.alloc (.cells #[.int .i64 0, .string ⟨#[]⟩, .int .i64 0, .string ⟨#[]⟩] 49)) w1.heap.size 49 #[.int .i64 0, .string ⟨#[]⟩, .int .i64 0, .string ⟨#[]⟩]) := Lib.hid (Blk.new w1 _ _)
    have HOA : Hid (Only Nobody w (w1.alloc (.cells #[.int .i64 0, .string ⟨#[]⟩, .int .i64 0, .string ⟨#[]⟩] 49))) := Lib.hid (HO1.out.alloc _)
    go_wp2_with fail
    refine (known_any _ (HS.out.same HOA.out).tab).mono ?_
    rintro e w2 ⟨rfl, ho2⟩
    have hb2 := ho2.blk HB.out (fun x => x)
    have HO2 := Lib.hid (HOA.out.trans ho2)
    have c0 : w2.cell? ⟨w1.heap.size, 0, none⟩ = some (.int .i64 0) := hb2.cell 0
    have c1 : w2.cell? ⟨w1.heap.size, 1, none⟩ = some (.string ⟨#[]⟩) := hb2.cell 1
    have c2 : w2.cell? ⟨w1.heap.size, 2, none⟩ = some (.int .i64 0) := hb2.cell 2
    have c3 : w2.cell? ⟨w1.heap.size, 3, none⟩ = some (.string ⟨#[]⟩) := hb2.cell 3
    clear ho2 hb2
    go_wp2_with fail
    go_ret
    exact ⟨rfl, HO2.out⟩

theorem enc_size {p : Pkt} (h : pErr p = 0) : (pEnc p).size ≤ 100000 := by
  obtain ⟨_, hnm, _, h0, h1, htx, _⟩ := pErr_zero h
  have hn := (nameB_size hnm).2
  have hi := itoa_len p.num h0 h1
  have e : (pEnc p).data.toList = pL p := by unfold pEnc; rw [if_pos h]
  have e2 : (pEnc p).size = (pL p).length := by rw [← e]; simp
  rw [e2]
  unfold pL
  have hn2 : p.name.data.toList.length = p.name.size := by simp
  have ht2 : p.text.data.toList.length = p.text.size := by simp
  split
  · simp only [List.length_append, List.length_cons, List.length_nil, hn2]
    omega
  · simp only [List.length_append, List.length_cons, List.length_nil, hn2, ht2]
    omega
set_option maxRecDepth 100000 in
set_option maxHeartbeats 4000000 in
theorem lawPk (p : Pkt) (hn : -9223372036854775808 ≤ p.num ∧ p.num ≤ 9223372036854775807) (w : World) (h : Std w) : Calls Tryd.prog 8 #[.agg #[.int .i64 p.kind, .string p.name, .int .i64 p.num, .string p.text]] w fun e w' => e = .returned (.bool true) ∧ Only Nobody w w' := by
  have HS := Lib.hid h
  have HN := Lib.hid hn
  have HB : Hid (Blk (w.alloc (.cells (pkC p) 49)) w.heap.size 49 (pkC p)) := Lib.hid (Blk.new w _ _)
  have HOA : Hid (Only Nobody w (w.alloc (.cells (pkC p) 49))) := Lib.hid ((Only.refl _ _).alloc _)
  clear h hn
  by_cases hbig : 70000 < p.text.size ∨ 100 < p.name.size
  · by_cases h7 : 70000 < p.text.size
    · have h7I : (70000 : Int) < (p.text.size : Int) := by omega
      clear hbig h7
      go_enter Tryd.func8, Tryd.ntmps8
      go_wp2_with fail
      refine (known_any _ (HS.out.same HOA.out).tab).mono ?_
      rintro e w2 ⟨rfl, ho2⟩
      have hb2 := ho2.blk HB.out (fun x => x)
      have HO2 := Lib.hid (HOA.out.trans ho2)
      have c1 : w2.cell? ⟨w.heap.size, 1, none⟩ = some (.string p.name) := hb2.cell 1
      have c3 : w2.cell? ⟨w.heap.size, 3, none⟩ = some (.string p.text) := hb2.cell 3
      clear ho2 hb2
      go_wp2_with fail
      refine (known_any _ (HS.out.same HO2.out).tab).mono ?_
      rintro e w3 ⟨rfl, ho3⟩
      have HO3 := Lib.hid (HO2.out.trans ho3)
      clear ho3
      go_wp2_with fail
      go_ret
      exact ⟨rfl, HO3.out⟩
    · have h7I : ¬ (70000 : Int) < (p.text.size : Int) := by omega
      have h1I : (100 : Int) < (p.name.size : Int) := by omega
      clear hbig h7
      go_enter Tryd.func8, Tryd.ntmps8
      go_wp2_with fail
      refine (known_any _ (HS.out.same HOA.out).tab).mono ?_
      rintro e w2 ⟨rfl, ho2⟩
      have hb2 := ho2.blk HB.out (fun x => x)
      have HO2 := Lib.hid (HOA.out.trans ho2)
      have c1 : w2.cell? ⟨w.heap.size, 1, none⟩ = some (.string p.name) := hb2.cell 1
      have c3 : w2.cell? ⟨w.heap.size, 3, none⟩ = some (.string p.text) := hb2.cell 3
      clear ho2 hb2
      go_wp2_with fail
      refine (known_any _ (HS.out.same HO2.out).tab).mono ?_
      rintro e w3 ⟨rfl, ho3⟩
      have HO3 := Lib.hid (HO2.out.trans ho3)
      clear ho3
      go_wp2_with fail
      go_ret
      exact ⟨rfl, HO3.out⟩
  · have h7I : ¬ (70000 : Int) < (p.text.size : Int) := by omega
    have h1I : ¬ (100 : Int) < (p.name.size : Int) := by omega
    clear hbig
    go_enter Tryd.func8, Tryd.ntmps8
    go_wp2_with fail
    refine (known_any _ (HS.out.same HOA.out).tab).mono ?_
    rintro e w2 ⟨rfl, ho2⟩
    have hb2 := ho2.blk HB.out (fun x => x)
    have HB2 := Lib.hid hb2
    have HO2 := Lib.hid (HOA.out.trans ho2)
    have c0 : w2.cell? ⟨w.heap.size, 0, none⟩ = some (.int .i64 p.kind) := hb2.cell 0
    have c1 : w2.cell? ⟨w.heap.size, 1, none⟩ = some (.string p.name) := hb2.cell 1
    have c2 : w2.cell? ⟨w.heap.size, 2, none⟩ = some (.int .i64 p.num) := hb2.cell 2
    have c3 : w2.cell? ⟨w.heap.size, 3, none⟩ = some (.string p.text) := hb2.cell 3
    clear ho2 hb2
    go_wp2_with fail
    refine (encode_any p _ (HS.out.same HO2.out).tab HN.out).mono ?_
    rintro e w3 ⟨rfl, ho3⟩
    have hb3 := ho3.blk HB2.out (fun x => x)
    have HB3 := Lib.hid hb3
    have HO3 := Lib.hid (HO2.out.trans ho3)
    have d0 : w3.cell? ⟨w.heap.size, 0, none⟩ = some (.int .i64 p.kind) := hb3.cell 0
    have d1 : w3.cell? ⟨w.heap.size, 1, none⟩ = some (.string p.name) := hb3.cell 1
    have d2 : w3.cell? ⟨w.heap.size, 2, none⟩ = some (.int .i64 p.num) := hb3.cell 2
    have d3 : w3.cell? ⟨w.heap.size, 3, none⟩ = some (.string p.text) := hb3.cell 3
    clear ho3 hb3 c0 c1 c2 c3
    obtain ⟨pr, HPR⟩ : ∃ pr, Hid (pErr p = pr) := ⟨_, Lib.hid rfl⟩
    obtain ⟨pe, HPE⟩ : ∃ pe, Hid (pEnc p = pe) := ⟨_, Lib.hid rfl⟩
    rw [HPR.out, HPE.out]
    go_wp2_with fail
    refine (checked_any p _).mono ?_
    rw [HPR.out]
    rintro e w4 ⟨rfl, ho4⟩
    have hb4 := ho4.blk HB3.out (fun x => x)
    have HB4 := Lib.hid hb4
    have HO4 := Lib.hid (HO3.out.trans ho4)
    clear ho4 hb4 d0 d1 d2 d3
    by_cases h0 : pr = 0
    · subst h0
      have HDO : Hid (decOk pe) := Lib.hid (by rw [← HPE.out]; exact decOk_enc p HPR.out)
      have HDP : Hid (decP pe = p) := Lib.hid (by rw [← HPE.out]; exact (dec_enc p HPR.out).1)
      have HPZ : Hid (pe.size ≤ 100000) := Lib.hid (by rw [← HPE.out]; exact enc_size HPR.out)
      go_wp2_with fail
      refine (decode_any pe HPZ.out _ (HS.out.same HO4.out)).mono ?_
      rintro e w5 ⟨hd, ho5⟩
      rcases hd with ⟨_, rfl⟩ | ⟨hno, _⟩
      · rw [HDP.out]
        have HB5 := Lib.hid (ho5.blk HB4.out (fun x => x))
        have HO5 := Lib.hid (HO4.out.trans ho5)
        clear ho5
        have HQ5 : Hid (Blk (w5.alloc (.cells (pkC p) 49)) w5.heap.size 49 (pkC p)) := Lib.hid (Blk.new w5 _ _)
        have hb6 := HB5.out.alloc (.cells (pkC p) 49)
        have HB6 := Lib.hid hb6
        have HO6 : Hid (Only Nobody w (w5.alloc (.cells (pkC p) 49))) := Lib.hid (HO5.out.alloc _)
        have d0 : w5.cell? ⟨w.heap.size, 0, none⟩ = some (.int .i64 p.kind) := HB5.out.cell 0
        have d1 : w5.cell? ⟨w.heap.size, 1, none⟩ = some (.string p.name) := HB5.out.cell 1
        have d2 : w5.cell? ⟨w.heap.size, 2, none⟩ = some (.int .i64 p.num) := HB5.out.cell 2
        have d3 : w5.cell? ⟨w.heap.size, 3, none⟩ = some (.string p.text) := HB5.out.cell 3
        have hlt5 : w.heap.size < w5.heap.size := HB5.out.lt
        clear hb6
        go_wp2_with fail
        refine (encoded_any p _ HPR.out).mono ?_
        rw [HPE.out]
        rintro e w6 ⟨rfl, ho6⟩
        have hb7 := ho6.blk HB6.out (fun x => x)
        have hq7 := ho6.blk HQ5.out (fun x => x)
        have HO7 := Lib.hid (HO6.out.trans ho6)
        have e0 : w6.cell? ⟨w.heap.size, 0, none⟩ = some (.int .i64 p.kind) := hb7.cell 0
        have e1 : w6.cell? ⟨w.heap.size, 1, none⟩ = some (.string p.name) := hb7.cell 1
        have e2 : w6.cell? ⟨w.heap.size, 2, none⟩ = some (.int .i64 p.num) := hb7.cell 2
        have e3 : w6.cell? ⟨w.heap.size, 3, none⟩ = some (.string p.text) := hb7.cell 3
        have q0 : w6.cell? ⟨w5.heap.size, 0, none⟩ = some (.int .i64 p.kind) := hq7.cell 0
        have q1 : w6.cell? ⟨w5.heap.size, 1, none⟩ = some (.string p.name) := hq7.cell 1
        have q2 : w6.cell? ⟨w5.heap.size, 2, none⟩ = some (.int .i64 p.num) := hq7.cell 2
        have q3 : w6.cell? ⟨w5.heap.size, 3, none⟩ = some (.string p.text) := hq7.cell 3
        clear ho6 hb7 hq7 d0 d1 d2 d3
        go_wp2_with fail
        go_ret
        exact ⟨rfl, HO7.out⟩
      · exact absurd HDO.out hno
    · have hz1 : (pr != 0) = true := by simpa using h0
      have HPE0 : Hid (pe = ⟨#[]⟩) := Lib.hid (by rw [← HPE.out]; unfold pEnc; rw [if_neg (by rw [HPR.out]; exact h0)])
      have t2 : pe.toList = [] := by rw [HPE0.out, toList_data]
      have t1 : pe.toList.isEmpty = true := by rw [t2]; rfl
      have t3 : (pe.toList == []) = true := by rw [t2]; rfl
      clear h0
      go_wp2_with fail
      go_ret
      exact ⟨rfl, HO4.out⟩
end Go.Proofs.YthmndclmecnpmaaDoor
