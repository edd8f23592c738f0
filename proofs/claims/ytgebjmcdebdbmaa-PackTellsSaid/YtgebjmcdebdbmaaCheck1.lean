/- Check, the program's and the document's; part, zig, four. -/
import Derived.Test.YtgebjmcdebdbmaaSmall
import Derived.Deep.Cut
namespace Go.Proofs.Ytgebjmcdebdbmaa
open Go.RowKit Go.Pairs

/-- the points ps lie at so. -/
def PT (w : World) (so : Option Addr) (ps : List (Int × Int × Int)) : Prop :=
  (∀ i (h : i < ps.length), ∃ b off, so = some ⟨b, off, none⟩ ∧ w.cell? ⟨b, off + i * 3, none⟩ = some (.int .i64 ps[i].1) ∧ w.cell? ⟨b, off + i * 3 + 1, none⟩ = some (.int .i64 ps[i].2.1) ∧ w.cell? ⟨b, off + i * 3 + 2, none⟩ = some (.int .i64 ps[i].2.2)) ∧ ps.length ≤ 9223372036854775807

theorem PT.keep {w w' : World} {so : Option Addr} {ps : List (Int × Int × Int)} (h : PT w so ps) (hk : Keeps (fun _ => False) w w') : PT w' so ps :=
  ⟨fun i hi => by obtain ⟨b, off, h1, h2, h3, h4⟩ := h.1 i hi; exact ⟨b, off, h1, hk.cell h2 (by simp), hk.cell h3 (by simp), hk.cell h4 (by simp)⟩, h.2⟩

def okc (c : Int) : Bool := decide (-1073741824 ≤ c) && decide (c ≤ 1073741824)
def okp (p : Int × Int × Int) : Bool := okc p.1 && okc p.2.1 && okc p.2.2
def chk (ps : List (Int × Int × Int)) : Int := if 512 < ps.length then 90 else if ps.all okp then 0 else 20

theorem chk_many {ps : List (Int × Int × Int)} (h : 512 < ps.length) : chk ps = 90 := by simp [chk, h]
theorem chk_ok {ps : List (Int × Int × Int)} (h : ¬ 512 < ps.length) (ha : ps.all okp = true) : chk ps = 0 := by simp [chk, h, ha]
theorem chk_bad {ps : List (Int × Int × Int)} (h : ¬ 512 < ps.length) {k : Nat} (hk : k < ps.length) (ha : okp ps[k] = false) : chk ps = 20 := by
  have : ps.all okp = false := by
    rw [List.all_eq_false]
    exact ⟨ps[k], List.getElem_mem hk, by simp [ha]⟩
  simp [chk, h, this]
theorem all_succ {ps : List (Int × Int × Int)} {k : Nat} (hk : k < ps.length) (h : (ps.take k).all okp = true) (ha : okp ps[k] = true) : (ps.take (k + 1)).all okp = true := by
  rw [List.take_succ_eq_append_getElem hk, List.all_append, h]; simp [ha]
theorem okc_yes {c : Int} (h : okc c = true) : -1073741824 ≤ c ∧ c ≤ 1073741824 := by simpa [okc] using h
theorem okc_no {c : Int} (h : okc c = false) : c < -1073741824 ∨ (¬ c < -1073741824 ∧ 1073741824 < c) := by
  simp only [okc, Bool.and_eq_false_iff, decide_eq_false_iff_not] at h
  omega

theorem fit_walk (w : World) (c : Int) : Calls Try.prog 32 #[.int .i64 c] w fun e w' => e = .returned (.bool (okc c)) ∧ w' = w := by
  have ho : okc c = (decide (-1073741824 ≤ c) && decide (c ≤ 1073741824)) := rfl
  have HO := hidp ho
  clear ho
  by_cases h1 : -1073741824 ≤ c
  · by_cases h2 : c ≤ 1073741824
    · have t1 : decide (-1073741824 ≤ c) = true := by simpa using h1
      have t2 : decide (c ≤ 1073741824) = true := by simpa using h2
      go_enter Try.func32, Try.ntmps32
      go_wp2
      go_ret
      exact ⟨by rw [HO.out, t1, t2]; rfl, rfl⟩
    · have t1 : decide (-1073741824 ≤ c) = true := by simpa using h1
      have t2 : decide (c ≤ 1073741824) = false := by simpa using h2
      go_enter Try.func32, Try.ntmps32
      go_wp2
      go_ret
      exact ⟨by rw [HO.out, t1, t2]; rfl, rfl⟩
  · have t1 : decide (-1073741824 ≤ c) = false := by simpa using h1
    go_enter Try.func32, Try.ntmps32
    go_wp2
    go_ret
    exact ⟨by rw [HO.out, t1]; rfl, rfl⟩

theorem Fit_walk (w : World) (x y z : Int) : Calls Try.prog 29 #[.agg #[.int .i64 x, .int .i64 y, .int .i64 z]] w fun e w' => e = .returned (.bool (okp (x, y, z))) ∧ Keeps (fun _ => False) w w' := by
  have K0 : Keeps (fun _ => False) w (w.alloc (.cells #[.int .i64 x, .int .i64 y, .int .i64 z] 53)) := (Keeps.refl _ _).alloc _
  obtain ⟨W1, hW1⟩ : ∃ W1, W1 = w.alloc (.cells #[.int .i64 x, .int .i64 y, .int .i64 z] 53) := ⟨_, rfl⟩
  obtain ⟨b, hb⟩ : ∃ b, b = w.heap.size := ⟨_, rfl⟩
  have hr : W1.heap[b]? = some (.cells #[.int .i64 x, .int .i64 y, .int .i64 z] 53 (0, 0)) := by rw [hW1, hb]; exact heap_alloc_new _ _
  have c0 := cells_at hr 0
  have c1 := cells_at hr 1
  have c2 := cells_at hr 2
  simp only [List.getElem?_toArray, List.getElem?_cons_zero, List.getElem?_cons_succ] at c0 c1 c2
  rw [← hW1] at K0
  have HK := hidp K0
  have HP := hidp (show okp (x, y, z) = (okc x && okc y && okc z) from rfl)
  have f1 := hidp (fit_walk W1 x)
  have f2 := hidp (fit_walk W1 y)
  have f3 := hidp (fit_walk W1 z)
  clear hr K0
  cases h1 : okc x with
  | false =>
    rw [h1] at f1 HP
    go_enter Try.func29, Try.ntmps29
    go_upto_region 1 with (fail)
    rw [← hW1]
    simp only [← hb]
    clear hW1 hb h1
    go_wp2_with fail
    refine f1.out.mono ?_
    rintro e W2 ⟨rfl, rfl⟩
    go_wp2_with fail
    go_ret
    exact ⟨by rw [HP.out]; rfl, HK.out⟩
  | true =>
    cases h2 : okc y with
    | false =>
      rw [h1] at f1 HP
      rw [h2] at f2 HP
      go_enter Try.func29, Try.ntmps29
      go_upto_region 1 with (fail)
      rw [← hW1]
      simp only [← hb]
      clear hW1 hb h1 h2
      go_wp2_with fail
      refine f1.out.mono ?_
      rintro e W2 ⟨rfl, rfl⟩
      go_wp2_with fail
      refine f2.out.mono ?_
      rintro e W3 ⟨rfl, rfl⟩
      go_wp2_with fail
      go_ret
      exact ⟨by rw [HP.out]; rfl, HK.out⟩
    | true =>
      rw [h1] at f1 HP
      rw [h2] at f2 HP
      go_enter Try.func29, Try.ntmps29
      go_upto_region 1 with (fail)
      rw [← hW1]
      simp only [← hb]
      clear hW1 hb h1 h2
      go_wp2_with fail
      refine f1.out.mono ?_
      rintro e W2 ⟨rfl, rfl⟩
      go_wp2_with fail
      refine f2.out.mono ?_
      rintro e W3 ⟨rfl, rfl⟩
      go_wp2_with fail
      refine f3.out.mono ?_
      rintro e W4 ⟨rfl, rfl⟩
      go_wp2_with fail
      go_ret
      exact ⟨by rw [HP.out]; simp, HK.out⟩

set_option maxRecDepth 100000 in
set_option maxHeartbeats 4000000 in
theorem refcheck_walk (w : World) (so : Option Addr) (cap : Nat) (ps : List (Int × Int × Int)) (h : PT w so ps) :
    Calls Try.prog 24 #[.slice so ps.length cap] w fun e w' => (∃ i, e = .returned (.tuple #[.int .i64 (chk ps), .int .i64 i])) ∧ Keeps (fun _ => False) w w' := by
  have HB := hidp h
  have hl := h.2
  clear h
  go_enter Try.func24, Try.ntmps24
  by_cases hmany : 512 < ps.length
  · have t1 : decide (512 < ps.length) = true := by simpa using hmany
    have t1' : decide ((512 : Int) < ps.length) = true := by simp; omega
    have HC := hidp (chk_many hmany)
    go_wp2
    go_ret2
    exact ⟨⟨0, by rw [HC.out]; rfl⟩, Keeps.refl _ _⟩
  have t1 : decide (512 < ps.length) = false := by simpa using hmany
  have t1' : decide ((512 : Int) < ps.length) = false := by simp; omega
  go_wp2
  go_loopw [4] (fun i wr => ∃ k : Nat, k ≤ ps.length ∧ i = .int .i64 k ∧ (ps.take k).all okp = true ∧ Keeps (fun _ => False) w wr) (fun i _ => ps.length - (intOf i).toNat)
  case atStart => exact ⟨0, Nat.zero_le _, rfl, rfl, Keeps.refl _ _⟩
  case round =>
    obtain ⟨k, hk, rfl, hall, hK⟩ := hrel
    have HK := hidp (And.intro hK hall)
    clear hK hall
    by_cases hlt : k < ps.length
    · obtain ⟨b, off, rfl, c0, c1, c2⟩ := (HB.out.keep HK.out.1).1 k hlt
      obtain ⟨x, hx⟩ : ∃ x, x = ps[k].1 := ⟨_, rfl⟩
      obtain ⟨y, hy⟩ : ∃ y, y = ps[k].2.1 := ⟨_, rfl⟩
      obtain ⟨z, hz⟩ : ∃ z, z = ps[k].2.2 := ⟨_, rfl⟩
      rw [← hx] at c0
      rw [← hy] at c1
      rw [← hz] at c2
      have hp : ps[k] = (x, y, z) := by rw [hx, hy, hz]
      have HP := hidp hp
      have t2 : decide (k < ps.length) = true := by simpa using hlt
      have t3 : ((k : Int) < ps.length) := by omega
      have hw : IntKind.i64.wrap ((k : Int) + 1) = k + 1 := IntWalk.i64_in _ (by omega)
      clear hx hy hz hp
      go_wp2_with fail
      refine (Fit_walk wr x y z).mono ?_
      rintro e W2 ⟨rfl, K2⟩
      cases ho : okp (x, y, z) with
      | true =>
        have HF := hidp (And.intro (HK.out.1.trans K2) (all_succ hlt HK.out.2 (by rw [HP.out]; exact ho)))
        clear K2 ho
        go_wp2
        exact ⟨⟨k + 1, by omega, rfl, HF.out.2, HF.out.1⟩, by simp [intOf]; omega⟩
      | false =>
        have HC := hidp (chk_bad hmany hlt (by rw [HP.out]; exact ho))
        have HF := hidp (HK.out.1.trans K2)
        clear K2 ho
        go_wp2
        go_ret2
        exact ⟨⟨k, by rw [HC.out]; rfl⟩, HF.out⟩
    · obtain rfl : k = ps.length := by omega
      have hall := HK.out.2
      rw [List.take_length] at hall
      have HC := hidp (chk_ok hmany hall)
      have t2 : decide (ps.length < ps.length) = false := by simp
      clear hall
      go_wp2
      go_ret2
      exact ⟨⟨0, by rw [HC.out]; rfl⟩, HK.out.1⟩
end Go.Proofs.Ytgebjmcdebdbmaa
