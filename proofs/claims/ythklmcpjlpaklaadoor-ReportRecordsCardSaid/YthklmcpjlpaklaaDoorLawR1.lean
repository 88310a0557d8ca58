/-
  Chapter 25: the law ReportRecords: the walk.
-/
import Derived.Test.YthklmcpjlpaklaaDoorRepK
namespace Go.Proofs.YthklmcpjlpaklaaDoor
open Go.RowKit
set_option linter.unusedVariables false

set_option maxRecDepth 100000 in
set_option maxHeartbeats 8000000 in
theorem records_walk (names : List ByteArray) (A : Option Addr) (n c : Nat) (r : Rec) (er : Int) (w : World) (htab : PowTab w) (hN : RdS w w.heap.size A n names) (hc : n ≤ c) (hok : r.Ok) (he : -9223372036854775808 ≤ er ∧ er ≤ 9223372036854775807) :
    Calls Tryd.prog 3 #[.slice A n c, r.v, .int .i64 er] w fun e w' => e = .returned (.bool true) ∧ Below w.heap.size w w' := by
  have HT := Lib.hid htab
  have HN := Lib.hid hN
  have HK := Lib.hid hok
  have HE := Lib.hid he
  have hle := hN.le
  clear htab hN hok he hc
  simp only [Rec.v]
  go_enter Tryd.func3, Tryd.ntmps3
  go_wp2_with fail
  obtain ⟨X1, hX1⟩ : ∃ X1, w.alloc (.cells #[.int .i64 r.who, .int .i64 r.tag, .int .i64 r.prog, .int .u64 r.a0, .int .u64 r.a1, .int .u64 r.a2, .int .u64 r.a3, .int .i64 r.from_, .int .i64 r.till, .int .i64 r.steps, .bool r.done, .int .i64 r.code, .int .u64 r.val] 31) = X1 := ⟨_, rfl⟩
  have HBK : Hid (Bk (w.alloc (.cells #[.int .i64 r.who, .int .i64 r.tag, .int .i64 r.prog, .int .u64 r.a0, .int .u64 r.a1, .int .u64 r.a2, .int .u64 r.a3, .int .i64 r.from_, .int .i64 r.till, .int .i64 r.steps, .bool r.done, .int .i64 r.code, .int .u64 r.val] 31)) w.heap.size 31 #[.int .i64 r.who, .int .i64 r.tag, .int .i64 r.prog, .int .u64 r.a0, .int .u64 r.a1, .int .u64 r.a2, .int .u64 r.a3, .int .i64 r.from_, .int .i64 r.till, .int .i64 r.steps, .bool r.done, .int .i64 r.code, .int .u64 r.val]) := Bk.new w _ _
  have HB1 : Hid (Below w.heap.size w (w.alloc (.cells #[.int .i64 r.who, .int .i64 r.tag, .int .i64 r.prog, .int .u64 r.a0, .int .u64 r.a1, .int .u64 r.a2, .int .u64 r.a3, .int .i64 r.from_, .int .i64 r.till, .int .i64 r.steps, .bool r.done, .int .i64 r.code, .int .u64 r.val] 31))) := (Below.refl _ _).alloc (Nat.le_refl _) _
  rw [hX1] at HBK HB1 ⊢
  clear hX1
  refine (alive_any _ (HT.out.below HB1.out)).mono ?_
  rintro e X2 ⟨rfl, hb2⟩
  have HBK2 := Lib.hid (HBK.out.below hb2 HBK.out.lt)
  have HB2 := Lib.hid (HB1.out.trans (hb2.mono HB1.out.size))
  clear hb2 HBK HB1
  by_cases hn : 10 < n
  · go_wp2
    go_ret
    exact ⟨rfl, HB2.out⟩
  have hz2 := Lib.hid HB2.out.size
  have hlt2 := Lib.hid HBK2.out.lt
  go_wp2
  go_loopw [16, 8] (fun i _u wr => ∃ k : Nat, (k ≤ n ∧ i = .int .i64 k) ∧ Hid (∀ x ∈ names.take k, x.size ≤ 30) ∧ wr = X2) (fun i _ _ => n - (intOf i).toNat)
  case atStart => exact ⟨0, ⟨by omega, rfl⟩, by show ∀ x ∈ _, _; simp, rfl⟩
  case round =>
    obtain ⟨k, ⟨hk, rfl⟩, HS, rfl⟩ := hrel
    by_cases hlt : k < n
    · obtain ⟨b, o, rfl, hbB, hAt⟩ := (HN.out.below HB2.out).at_ (by omega)
      obtain ⟨x, hx⟩ : ∃ x, names[k]? = some x := ⟨_, List.getElem?_eq_getElem (by rw [HN.out.strLen]; exact hlt)⟩
      have c0 : wr.cell? ⟨b, o + k, none⟩ = some (.string x) := by
        have := hAt k (.string x) (by rw [List.getElem?_map, hx]; rfl)
        exact this
      have HTk : Hid (names.take (k + 1) = names.take k ++ [x]) := by show _ = _; rw [List.take_add_one, hx]; rfl
      clear hAt hx
      by_cases h30 : 30 < x.size
      · go_wp2
        go_ret
        exact ⟨rfl, HB2.out⟩
      · have HA1 : Hid (∀ t ∈ names.take (k + 1), t.size ≤ 30) := by
          show ∀ t ∈ _, _
          rw [HTk.out]
          intro t ht
          rcases List.mem_append.1 ht with h | h
          · exact HS.out t h
          · obtain rfl := List.mem_singleton.1 h
            omega
        go_wp2
        go_roundw
        case rel => exact ⟨k + 1, ⟨by omega, by go_num⟩, HA1, trivial⟩
        case measure => simp [intOf]; omega
    · obtain rfl : n = k := by omega
      have HSz : Hid (∀ x ∈ names, x.size ≤ 1000) := by
        show ∀ x ∈ _, _
        intro x hx
        have h := HS.out x
        rw [List.take_of_length_le (by rw [HN.out.strLen]; exact Nat.le_refl _)] at h
        exact Nat.le_trans (h hx) (by decide)
      have HN2 := Lib.hid ((HN.out.below HB2.out).more hz2.out)
      obtain ⟨V0, hV0⟩ : ∃ V, str (recordP names r) = V := ⟨_, rfl⟩
      obtain ⟨V1, hV1⟩ : ∃ V, str (resultP r.code r.val) = V := ⟨_, rfl⟩
      obtain ⟨V2, hV2⟩ : ∃ V, str (wordP er) = V := ⟨_, rfl⟩
      have HV0 := Lib.hid hV0
      have HV1 := Lib.hid hV1
      have HV2 := Lib.hid hV2
      have hzw := hz2.out
      have HBKd : Hid (Bk wr.drew w.heap.size 31 #[.int .i64 r.who, .int .i64 r.tag, .int .i64 r.prog, .int .u64 r.a0, .int .u64 r.a1, .int .u64 r.a2, .int .u64 r.a3, .int .i64 r.from_, .int .i64 r.till, .int .i64 r.steps, .bool r.done, .int .i64 r.code, .int .u64 r.val]) := HBK2.out.drew
      have HTd : Hid (PowTab wr.drew) := HT.out.below HB2.out.drew
      have HNd : Hid (RdS wr.drew wr.drew.heap.size A n names) := HN2.out.drew
      have HBd : Hid (Below w.heap.size w wr.drew) := HB2.out.drew
      have hzd : w.heap.size ≤ wr.drew.heap.size := hzw
      have d0 : wr.cell? ⟨w.heap.size, 0, none⟩ = some (.int .i64 r.who) := (HBK2.out.cell 0).trans rfl
      have d1 : wr.cell? ⟨w.heap.size, 1, none⟩ = some (.int .i64 r.tag) := (HBK2.out.cell 1).trans rfl
      have d2 : wr.cell? ⟨w.heap.size, 2, none⟩ = some (.int .i64 r.prog) := (HBK2.out.cell 2).trans rfl
      have d3 : wr.cell? ⟨w.heap.size, 3, none⟩ = some (.int .u64 r.a0) := (HBK2.out.cell 3).trans rfl
      have d4 : wr.cell? ⟨w.heap.size, 4, none⟩ = some (.int .u64 r.a1) := (HBK2.out.cell 4).trans rfl
      have d5 : wr.cell? ⟨w.heap.size, 5, none⟩ = some (.int .u64 r.a2) := (HBK2.out.cell 5).trans rfl
      have d6 : wr.cell? ⟨w.heap.size, 6, none⟩ = some (.int .u64 r.a3) := (HBK2.out.cell 6).trans rfl
      have d7 : wr.cell? ⟨w.heap.size, 7, none⟩ = some (.int .i64 r.from_) := (HBK2.out.cell 7).trans rfl
      have d8 : wr.cell? ⟨w.heap.size, 8, none⟩ = some (.int .i64 r.till) := (HBK2.out.cell 8).trans rfl
      have d9 : wr.cell? ⟨w.heap.size, 9, none⟩ = some (.int .i64 r.steps) := (HBK2.out.cell 9).trans rfl
      have d10 : wr.cell? ⟨w.heap.size, 10, none⟩ = some (.bool r.done) := (HBK2.out.cell 10).trans rfl
      have d11 : wr.cell? ⟨w.heap.size, 11, none⟩ = some (.int .i64 r.code) := (HBK2.out.cell 11).trans rfl
      have d12 : wr.cell? ⟨w.heap.size, 12, none⟩ = some (.int .u64 r.val) := (HBK2.out.cell 12).trans rfl
      have e0 : wr.drew.cell? ⟨w.heap.size, 0, none⟩ = some (.int .i64 r.who) := (HBKd.out.cell 0).trans rfl
      have e1 : wr.drew.cell? ⟨w.heap.size, 1, none⟩ = some (.int .i64 r.tag) := (HBKd.out.cell 1).trans rfl
      have e2 : wr.drew.cell? ⟨w.heap.size, 2, none⟩ = some (.int .i64 r.prog) := (HBKd.out.cell 2).trans rfl
      have e3 : wr.drew.cell? ⟨w.heap.size, 3, none⟩ = some (.int .u64 r.a0) := (HBKd.out.cell 3).trans rfl
      have e4 : wr.drew.cell? ⟨w.heap.size, 4, none⟩ = some (.int .u64 r.a1) := (HBKd.out.cell 4).trans rfl
      have e5 : wr.drew.cell? ⟨w.heap.size, 5, none⟩ = some (.int .u64 r.a2) := (HBKd.out.cell 5).trans rfl
      have e6 : wr.drew.cell? ⟨w.heap.size, 6, none⟩ = some (.int .u64 r.a3) := (HBKd.out.cell 6).trans rfl
      have e7 : wr.drew.cell? ⟨w.heap.size, 7, none⟩ = some (.int .i64 r.from_) := (HBKd.out.cell 7).trans rfl
      have e8 : wr.drew.cell? ⟨w.heap.size, 8, none⟩ = some (.int .i64 r.till) := (HBKd.out.cell 8).trans rfl
      have e9 : wr.drew.cell? ⟨w.heap.size, 9, none⟩ = some (.int .i64 r.steps) := (HBKd.out.cell 9).trans rfl
      have e10 : wr.drew.cell? ⟨w.heap.size, 10, none⟩ = some (.bool r.done) := (HBKd.out.cell 10).trans rfl
      have e11 : wr.drew.cell? ⟨w.heap.size, 11, none⟩ = some (.int .i64 r.code) := (HBKd.out.cell 11).trans rfl
      have e12 : wr.drew.cell? ⟨w.heap.size, 12, none⟩ = some (.int .u64 r.val) := (HBKd.out.cell 12).trans rfl
      clear hV0 hV1 hV2 HS HBK2 HB2 HN2 hz2 hlt2 hlt HT HN
      go_wp2_with fail
      go_region_held3 (fun w' => w'.cell? ⟨w.heap.size, 0, none⟩ = some (.int .i64 r.who) ∧ w'.cell? ⟨w.heap.size, 1, none⟩ = some (.int .i64 r.tag) ∧ w'.cell? ⟨w.heap.size, 2, none⟩ = some (.int .i64 r.prog) ∧ w'.cell? ⟨w.heap.size, 3, none⟩ = some (.int .u64 r.a0) ∧ w'.cell? ⟨w.heap.size, 4, none⟩ = some (.int .u64 r.a1) ∧ w'.cell? ⟨w.heap.size, 5, none⟩ = some (.int .u64 r.a2) ∧ w'.cell? ⟨w.heap.size, 6, none⟩ = some (.int .u64 r.a3) ∧ w'.cell? ⟨w.heap.size, 7, none⟩ = some (.int .i64 r.from_) ∧ w'.cell? ⟨w.heap.size, 8, none⟩ = some (.int .i64 r.till) ∧ w'.cell? ⟨w.heap.size, 9, none⟩ = some (.int .i64 r.steps) ∧ w'.cell? ⟨w.heap.size, 10, none⟩ = some (.bool r.done) ∧ w'.cell? ⟨w.heap.size, 11, none⟩ = some (.int .i64 r.code) ∧ w'.cell? ⟨w.heap.size, 12, none⟩ = some (.int .u64 r.val))
        (first | exact ⟨e0, e1, e2, e3, e4, e5, e6, e7, e8, e9, e10, e11, e12⟩ | exact ⟨d0, d1, d2, d3, d4, d5, d6, d7, d8, d9, d10, d11, d12⟩ | go_keep)
        (first
      | (go_at_call 7
         refine (record_any names _ n c r _ HNd.out HK.out (by omega) HSz.out HTd.out).mono ?_
         rintro e wn ⟨rfl, hbn⟩
         rw [HV0.out]
         have HTd := Lib.hid (HTd.out.below hbn)
         have HBKd := Lib.hid (HBKd.out.below hbn HBKd.out.lt)
         have HNd := Lib.hid ((HNd.out.below hbn).more hbn.size)
         have HBd := Lib.hid (HBd.out.trans (hbn.mono hzd))
         have hzd := HBd.out.size
         clear hbn
         have e0 : wn.cell? ⟨w.heap.size, 0, none⟩ = some (.int .i64 r.who) := (HBKd.out.cell 0).trans rfl
         have e1 : wn.cell? ⟨w.heap.size, 1, none⟩ = some (.int .i64 r.tag) := (HBKd.out.cell 1).trans rfl
         have e2 : wn.cell? ⟨w.heap.size, 2, none⟩ = some (.int .i64 r.prog) := (HBKd.out.cell 2).trans rfl
         have e3 : wn.cell? ⟨w.heap.size, 3, none⟩ = some (.int .u64 r.a0) := (HBKd.out.cell 3).trans rfl
         have e4 : wn.cell? ⟨w.heap.size, 4, none⟩ = some (.int .u64 r.a1) := (HBKd.out.cell 4).trans rfl
         have e5 : wn.cell? ⟨w.heap.size, 5, none⟩ = some (.int .u64 r.a2) := (HBKd.out.cell 5).trans rfl
         have e6 : wn.cell? ⟨w.heap.size, 6, none⟩ = some (.int .u64 r.a3) := (HBKd.out.cell 6).trans rfl
         have e7 : wn.cell? ⟨w.heap.size, 7, none⟩ = some (.int .i64 r.from_) := (HBKd.out.cell 7).trans rfl
         have e8 : wn.cell? ⟨w.heap.size, 8, none⟩ = some (.int .i64 r.till) := (HBKd.out.cell 8).trans rfl
         have e9 : wn.cell? ⟨w.heap.size, 9, none⟩ = some (.int .i64 r.steps) := (HBKd.out.cell 9).trans rfl
         have e10 : wn.cell? ⟨w.heap.size, 10, none⟩ = some (.bool r.done) := (HBKd.out.cell 10).trans rfl
         have e11 : wn.cell? ⟨w.heap.size, 11, none⟩ = some (.int .i64 r.code) := (HBKd.out.cell 11).trans rfl
         have e12 : wn.cell? ⟨w.heap.size, 12, none⟩ = some (.int .u64 r.val) := (HBKd.out.cell 12).trans rfl)
      | (go_at_call 8
         refine (rrecord_any names _ n c r _ HNd.out HK.out (by omega) HSz.out).mono ?_
         rintro e wn ⟨rfl, hbn⟩
         rw [HV0.out]
         have HTd := Lib.hid (HTd.out.below hbn)
         have HBKd := Lib.hid (HBKd.out.below hbn HBKd.out.lt)
         have HNd := Lib.hid ((HNd.out.below hbn).more hbn.size)
         have HBd := Lib.hid (HBd.out.trans (hbn.mono hzd))
         have hzd := HBd.out.size
         clear hbn
         have e0 : wn.cell? ⟨w.heap.size, 0, none⟩ = some (.int .i64 r.who) := (HBKd.out.cell 0).trans rfl
         have e1 : wn.cell? ⟨w.heap.size, 1, none⟩ = some (.int .i64 r.tag) := (HBKd.out.cell 1).trans rfl
         have e2 : wn.cell? ⟨w.heap.size, 2, none⟩ = some (.int .i64 r.prog) := (HBKd.out.cell 2).trans rfl
         have e3 : wn.cell? ⟨w.heap.size, 3, none⟩ = some (.int .u64 r.a0) := (HBKd.out.cell 3).trans rfl
         have e4 : wn.cell? ⟨w.heap.size, 4, none⟩ = some (.int .u64 r.a1) := (HBKd.out.cell 4).trans rfl
         have e5 : wn.cell? ⟨w.heap.size, 5, none⟩ = some (.int .u64 r.a2) := (HBKd.out.cell 5).trans rfl
         have e6 : wn.cell? ⟨w.heap.size, 6, none⟩ = some (.int .u64 r.a3) := (HBKd.out.cell 6).trans rfl
         have e7 : wn.cell? ⟨w.heap.size, 7, none⟩ = some (.int .i64 r.from_) := (HBKd.out.cell 7).trans rfl
         have e8 : wn.cell? ⟨w.heap.size, 8, none⟩ = some (.int .i64 r.till) := (HBKd.out.cell 8).trans rfl
         have e9 : wn.cell? ⟨w.heap.size, 9, none⟩ = some (.int .i64 r.steps) := (HBKd.out.cell 9).trans rfl
         have e10 : wn.cell? ⟨w.heap.size, 10, none⟩ = some (.bool r.done) := (HBKd.out.cell 10).trans rfl
         have e11 : wn.cell? ⟨w.heap.size, 11, none⟩ = some (.int .i64 r.code) := (HBKd.out.cell 11).trans rfl
         have e12 : wn.cell? ⟨w.heap.size, 12, none⟩ = some (.int .u64 r.val) := (HBKd.out.cell 12).trans rfl)
      | (go_at_call 9
         refine (result_any r.code r.val HK.out.code.1 HK.out.code.2 HK.out.val.1 HK.out.val.2 _ HTd.out).mono ?_
         rintro e wn ⟨rfl, hbn⟩
         rw [HV1.out]
         have HTd := Lib.hid (HTd.out.below hbn)
         have HBKd := Lib.hid (HBKd.out.below hbn HBKd.out.lt)
         have HNd := Lib.hid ((HNd.out.below hbn).more hbn.size)
         have HBd := Lib.hid (HBd.out.trans (hbn.mono hzd))
         have hzd := HBd.out.size
         clear hbn
         have e0 : wn.cell? ⟨w.heap.size, 0, none⟩ = some (.int .i64 r.who) := (HBKd.out.cell 0).trans rfl
         have e1 : wn.cell? ⟨w.heap.size, 1, none⟩ = some (.int .i64 r.tag) := (HBKd.out.cell 1).trans rfl
         have e2 : wn.cell? ⟨w.heap.size, 2, none⟩ = some (.int .i64 r.prog) := (HBKd.out.cell 2).trans rfl
         have e3 : wn.cell? ⟨w.heap.size, 3, none⟩ = some (.int .u64 r.a0) := (HBKd.out.cell 3).trans rfl
         have e4 : wn.cell? ⟨w.heap.size, 4, none⟩ = some (.int .u64 r.a1) := (HBKd.out.cell 4).trans rfl
         have e5 : wn.cell? ⟨w.heap.size, 5, none⟩ = some (.int .u64 r.a2) := (HBKd.out.cell 5).trans rfl
         have e6 : wn.cell? ⟨w.heap.size, 6, none⟩ = some (.int .u64 r.a3) := (HBKd.out.cell 6).trans rfl
         have e7 : wn.cell? ⟨w.heap.size, 7, none⟩ = some (.int .i64 r.from_) := (HBKd.out.cell 7).trans rfl
         have e8 : wn.cell? ⟨w.heap.size, 8, none⟩ = some (.int .i64 r.till) := (HBKd.out.cell 8).trans rfl
         have e9 : wn.cell? ⟨w.heap.size, 9, none⟩ = some (.int .i64 r.steps) := (HBKd.out.cell 9).trans rfl
         have e10 : wn.cell? ⟨w.heap.size, 10, none⟩ = some (.bool r.done) := (HBKd.out.cell 10).trans rfl
         have e11 : wn.cell? ⟨w.heap.size, 11, none⟩ = some (.int .i64 r.code) := (HBKd.out.cell 11).trans rfl
         have e12 : wn.cell? ⟨w.heap.size, 12, none⟩ = some (.int .u64 r.val) := (HBKd.out.cell 12).trans rfl)
      | (go_at_call 10
         refine (rresult_any r.code r.val HK.out.code.1 HK.out.code.2 HK.out.val.1 HK.out.val.2 _).mono ?_
         rintro e wn ⟨rfl, hbn⟩
         rw [HV1.out]
         have HTd := Lib.hid (HTd.out.below hbn)
         have HBKd := Lib.hid (HBKd.out.below hbn HBKd.out.lt)
         have HNd := Lib.hid ((HNd.out.below hbn).more hbn.size)
         have HBd := Lib.hid (HBd.out.trans (hbn.mono hzd))
         have hzd := HBd.out.size
         clear hbn
         have e0 : wn.cell? ⟨w.heap.size, 0, none⟩ = some (.int .i64 r.who) := (HBKd.out.cell 0).trans rfl
         have e1 : wn.cell? ⟨w.heap.size, 1, none⟩ = some (.int .i64 r.tag) := (HBKd.out.cell 1).trans rfl
         have e2 : wn.cell? ⟨w.heap.size, 2, none⟩ = some (.int .i64 r.prog) := (HBKd.out.cell 2).trans rfl
         have e3 : wn.cell? ⟨w.heap.size, 3, none⟩ = some (.int .u64 r.a0) := (HBKd.out.cell 3).trans rfl
         have e4 : wn.cell? ⟨w.heap.size, 4, none⟩ = some (.int .u64 r.a1) := (HBKd.out.cell 4).trans rfl
         have e5 : wn.cell? ⟨w.heap.size, 5, none⟩ = some (.int .u64 r.a2) := (HBKd.out.cell 5).trans rfl
         have e6 : wn.cell? ⟨w.heap.size, 6, none⟩ = some (.int .u64 r.a3) := (HBKd.out.cell 6).trans rfl
         have e7 : wn.cell? ⟨w.heap.size, 7, none⟩ = some (.int .i64 r.from_) := (HBKd.out.cell 7).trans rfl
         have e8 : wn.cell? ⟨w.heap.size, 8, none⟩ = some (.int .i64 r.till) := (HBKd.out.cell 8).trans rfl
         have e9 : wn.cell? ⟨w.heap.size, 9, none⟩ = some (.int .i64 r.steps) := (HBKd.out.cell 9).trans rfl
         have e10 : wn.cell? ⟨w.heap.size, 10, none⟩ = some (.bool r.done) := (HBKd.out.cell 10).trans rfl
         have e11 : wn.cell? ⟨w.heap.size, 11, none⟩ = some (.int .i64 r.code) := (HBKd.out.cell 11).trans rfl
         have e12 : wn.cell? ⟨w.heap.size, 12, none⟩ = some (.int .u64 r.val) := (HBKd.out.cell 12).trans rfl)
      | (go_at_call 11
         refine (word_any er HE.out.1 HE.out.2 _ HTd.out).mono ?_
         rintro e wn ⟨rfl, hbn⟩
         rw [HV2.out]
         have HTd := Lib.hid (HTd.out.below hbn)
         have HBKd := Lib.hid (HBKd.out.below hbn HBKd.out.lt)
         have HNd := Lib.hid ((HNd.out.below hbn).more hbn.size)
         have HBd := Lib.hid (HBd.out.trans (hbn.mono hzd))
         have hzd := HBd.out.size
         clear hbn
         have e0 : wn.cell? ⟨w.heap.size, 0, none⟩ = some (.int .i64 r.who) := (HBKd.out.cell 0).trans rfl
         have e1 : wn.cell? ⟨w.heap.size, 1, none⟩ = some (.int .i64 r.tag) := (HBKd.out.cell 1).trans rfl
         have e2 : wn.cell? ⟨w.heap.size, 2, none⟩ = some (.int .i64 r.prog) := (HBKd.out.cell 2).trans rfl
         have e3 : wn.cell? ⟨w.heap.size, 3, none⟩ = some (.int .u64 r.a0) := (HBKd.out.cell 3).trans rfl
         have e4 : wn.cell? ⟨w.heap.size, 4, none⟩ = some (.int .u64 r.a1) := (HBKd.out.cell 4).trans rfl
         have e5 : wn.cell? ⟨w.heap.size, 5, none⟩ = some (.int .u64 r.a2) := (HBKd.out.cell 5).trans rfl
         have e6 : wn.cell? ⟨w.heap.size, 6, none⟩ = some (.int .u64 r.a3) := (HBKd.out.cell 6).trans rfl
         have e7 : wn.cell? ⟨w.heap.size, 7, none⟩ = some (.int .i64 r.from_) := (HBKd.out.cell 7).trans rfl
         have e8 : wn.cell? ⟨w.heap.size, 8, none⟩ = some (.int .i64 r.till) := (HBKd.out.cell 8).trans rfl
         have e9 : wn.cell? ⟨w.heap.size, 9, none⟩ = some (.int .i64 r.steps) := (HBKd.out.cell 9).trans rfl
         have e10 : wn.cell? ⟨w.heap.size, 10, none⟩ = some (.bool r.done) := (HBKd.out.cell 10).trans rfl
         have e11 : wn.cell? ⟨w.heap.size, 11, none⟩ = some (.int .i64 r.code) := (HBKd.out.cell 11).trans rfl
         have e12 : wn.cell? ⟨w.heap.size, 12, none⟩ = some (.int .u64 r.val) := (HBKd.out.cell 12).trans rfl)
      | (go_at_call 12
         refine (rword_any er HE.out.1 HE.out.2 _).mono ?_
         rintro e wn ⟨rfl, hbn⟩
         rw [HV2.out]
         have HTd := Lib.hid (HTd.out.below hbn)
         have HBKd := Lib.hid (HBKd.out.below hbn HBKd.out.lt)
         have HNd := Lib.hid ((HNd.out.below hbn).more hbn.size)
         have HBd := Lib.hid (HBd.out.trans (hbn.mono hzd))
         have hzd := HBd.out.size
         clear hbn
         have e0 : wn.cell? ⟨w.heap.size, 0, none⟩ = some (.int .i64 r.who) := (HBKd.out.cell 0).trans rfl
         have e1 : wn.cell? ⟨w.heap.size, 1, none⟩ = some (.int .i64 r.tag) := (HBKd.out.cell 1).trans rfl
         have e2 : wn.cell? ⟨w.heap.size, 2, none⟩ = some (.int .i64 r.prog) := (HBKd.out.cell 2).trans rfl
         have e3 : wn.cell? ⟨w.heap.size, 3, none⟩ = some (.int .u64 r.a0) := (HBKd.out.cell 3).trans rfl
         have e4 : wn.cell? ⟨w.heap.size, 4, none⟩ = some (.int .u64 r.a1) := (HBKd.out.cell 4).trans rfl
         have e5 : wn.cell? ⟨w.heap.size, 5, none⟩ = some (.int .u64 r.a2) := (HBKd.out.cell 5).trans rfl
         have e6 : wn.cell? ⟨w.heap.size, 6, none⟩ = some (.int .u64 r.a3) := (HBKd.out.cell 6).trans rfl
         have e7 : wn.cell? ⟨w.heap.size, 7, none⟩ = some (.int .i64 r.from_) := (HBKd.out.cell 7).trans rfl
         have e8 : wn.cell? ⟨w.heap.size, 8, none⟩ = some (.int .i64 r.till) := (HBKd.out.cell 8).trans rfl
         have e9 : wn.cell? ⟨w.heap.size, 9, none⟩ = some (.int .i64 r.steps) := (HBKd.out.cell 9).trans rfl
         have e10 : wn.cell? ⟨w.heap.size, 10, none⟩ = some (.bool r.done) := (HBKd.out.cell 10).trans rfl
         have e11 : wn.cell? ⟨w.heap.size, 11, none⟩ = some (.int .i64 r.code) := (HBKd.out.cell 11).trans rfl
         have e12 : wn.cell? ⟨w.heap.size, 12, none⟩ = some (.int .u64 r.val) := (HBKd.out.cell 12).trans rfl))
      all_goals
        go_wp2
        go_ret
        exact ⟨rfl, HBd.out⟩
end Go.Proofs.YthklmcpjlpaklaaDoor
