/- awake. -/
import Derived.Test.YtgebjmcdebdbmaaWriteW
import Derived.Lib.SlBytesConst
namespace Go.Proofs.Ytgebjmcdebdbmaa
open Go.RowKit Go.Pairs

theorem readnil27 (w : World) : Calls Try.prog 27 #[.slice none 0 0] w fun e w' => e = .returned (.tuple #[.slice none 0 0, .bool false]) ∧ w' = w := by
  go_enter Try.func27, Try.ntmps27
  go_wp2
  go_ret2
  exact ⟨rfl, rfl⟩

theorem read_nil (w : World) : Calls Try.prog 19 #[.slice none 0 0] w fun e w' => e = .returned (.tuple #[.slice none 0 0, .int .i64 190]) ∧ w' = w := by
  go_enter Try.func19, Try.ntmps19
  go_wp2_with fail
  refine (readnil27 w).mono ?_
  rintro e W1 ⟨rfl, rfl⟩
  go_wp2_with fail
  go_ret2
  exact ⟨rfl, rfl⟩

theorem front0 : front [] 0 = [67, 0] := by
  have : uintN 0 = [0] := uintN_small (by decide)
  simp [front, this, bodyK]
theorem write0 : ∃ t, writeV [] = 67 :: 0 :: t ∧ t.length = 4 := by
  refine ⟨fourN (sumN (front [] 0)), ?_, rfl⟩
  have : writeV [] = writeN [] := if_pos (by decide)
  rw [this, writeN]
  simp only [List.length_nil]
  rw [front0]
  rfl
theorem take3 : takeN [172, 2, 9] = some (300, 2) := by decide
theorem sum9 : sumN [49, 50, 51, 52, 53, 54, 55, 56, 57] = 3421780262 := by kernel_rfl

theorem bs_lit (W : World) (bs : List Nat) (fr : Nat × Nat) (h : ∀ x ∈ bs, x < 256) (hl : bs.length ≤ 1000) : BS (W.alloc (.cells (byts bs).toArray 5 fr)) (some ⟨W.heap.size, 0, none⟩) bs := by
  refine ⟨fun i hi => ⟨W.heap.size, 0, rfl, ?_⟩, h, by omega⟩
  rw [Nat.zero_add, cells_at (heap_alloc_new W _)]
  simp [byts, hi]

set_option maxRecDepth 100000 in
theorem awake_any (w : World) : Calls Try.prog 8 #[] w fun e w' => e = .returned (.bool true) ∧ Keeps (fun _ => False) w w' := by
  have hpt : PT w none [] := ⟨fun i hi => by simp at hi, by simp⟩
  have CW := hidp (write_walk w none 0 [] hpt)
  clear hpt
  go_enter Try.func8, Try.ntmps8
  go_wp2_with fail
  refine CW.out.mono ?_
  rintro e W1 ⟨⟨oa, oc, rfl, hbs, -, -⟩, K1⟩
  obtain ⟨t, ht, htl⟩ := write0
  have hlen : (writeV []).length = 6 := by rw [ht]; simp [htl]
  obtain ⟨b, off, rfl, hb0⟩ := hbs.1 0 (by omega)
  have hb0' : W1.cell? ⟨b, off, none⟩ = some (.int .u8 67) := by
    rw [Nat.add_zero] at hb0
    rw [hb0]
    simp [ht]
  have hchk : chk [] = 0 := by decide
  rw [hlen, hchk]
  have HK := hidp K1
  clear hbs hb0 ht htl hlen hchk K1 CW
  go_wp2_with fail
  refine (read_nil W1).mono ?_
  rintro e W2 ⟨rfl, rfl⟩
  have h3 := bs_lit W2 [172, 2, 9] (0, 0) (by simp) (by simp)
  have C3 := take_walk _ _ 3 _ h3
  rw [take3] at C3
  have HC3 := hidp C3
  have K3 := HK.out.alloc (.cells (byts [172, 2, 9]).toArray 5)
  have hb3 := ((Keeps.refl (fun _ => False) W2).alloc (.cells (byts [172, 2, 9]).toArray 5)).cell hb0' (by simp)
  have HK3 := hidp (And.intro K3 hb3)
  clear h3 C3 K3 hb3 hb0' HK
  go_wp2_with fail
  refine HC3.out.mono ?_
  rintro e W3 ⟨rfl, rfl⟩
  obtain ⟨W4, hW4⟩ : ∃ W4, W4 = W2.alloc (.cells (byts [172, 2, 9]).toArray 5) := ⟨_, rfl⟩
  rw [← hW4] at HK3 ⊢
  have hb4 := HK3.out.2
  have h5 := bs_lit W4 [49, 50, 51, 52, 53, 54, 55, 56, 57] (9, 10) (by simp) (by simp)
  have C5 := sum_walk _ _ 9 _ h5
  rw [sum9] at C5
  have HC5 := hidp C5
  have K5 := HK3.out.1.alloc (.cells (byts [49, 50, 51, 52, 53, 54, 55, 56, 57]).toArray 5 (9, 10))
  have hb5 := ((Keeps.refl (fun _ => False) W4).alloc (.cells #[.int .u8 49, .int .u8 50, .int .u8 51, .int .u8 52, .int .u8 53, .int .u8 54, .int .u8 55, .int .u8 56, .int .u8 57] 5)).cell hb4 (by simp)
  have hcv := Lib.run_convert_bytes_const W4 23 5 #[.int .u8 49, .int .u8 50, .int .u8 51, .int .u8 52, .int .u8 53, .int .u8 54, .int .u8 55, .int .u8 56, .int .u8 57] 9 9 Try.underlying23 Try.underlying5
  have HK5 := hidp K5
  clear h5 C5 K5 hW4 HC3
  simp only [takeV]
  go_wp2_with fail
  refine HC5.out.mono ?_
  rintro e W6 ⟨rfl, rfl⟩
  go_wp2_with fail
  go_ret
  exact ⟨rfl, HK5.out⟩
end Go.Proofs.Ytgebjmcdebdbmaa
