/- Bytes: what a row of bytes reads; the sum: plain law, and both walks. -/
import Derived.Test.YtgebjmcdebdbmaaRows
import Derived.Test.YtgebjmcdebdbmaaBase
import Derived.WalkKit
import Derived.WalkSpells
import Derived.WalkLawsBesides
import Derived.Laws.BitsAll
import Derived.Laws.BitsAllLaws
import Derived.Laws.Shifts
import Derived.Deep.QuietTactic
import Derived.BigQuiet
namespace Go.Proofs.Ytgebjmcdebdbmaa
open Go.RowKit Go.Pairs

theorem cells_at {w : World} {c : Nat} {cs : Array Value} {t : TypeId} {fr : Nat × Nat} (h : w.heap[c]? = some (.cells cs t fr)) (i : Nat) : w.cell? ⟨c, i, none⟩ = cs[i]? := by simp [World.cell?, h]
theorem free_at {w : World} {c : Nat} {cs : Array Value} {t : TypeId} (h : w.heap[c]? = some (.cells cs t (0, 0))) (i : Nat) : w.frozen? ⟨c, i, none⟩ = false := by simp [World.frozen?, h]
theorem keeps_drewN {S : Nat → Prop} {a w : World} (h : Keeps S a w) (n : Nat) : Keeps S a (w.drewN n) := ⟨h.os, h.tape, h.output, h.size, h.block⟩
def intOf : Value → Int
  | .int _ n => n
  | _ => 0

/-- the bytes bs lie at so. -/
def BS (w : World) (so : Option Addr) (bs : List Nat) : Prop :=
  (∀ i (h : i < bs.length), ∃ b off, so = some ⟨b, off, none⟩ ∧ w.cell? ⟨b, off + i, none⟩ = some (.int .u8 bs[i])) ∧ (∀ x ∈ bs, x < 256) ∧ bs.length ≤ 9223372036854775807

theorem BS.keep {w w' : World} {so : Option Addr} {bs : List Nat} (h : BS w so bs) (hk : Keeps (fun _ => False) w w') : BS w' so bs :=
  ⟨fun i hi => by obtain ⟨b, off, h1, h2⟩ := h.1 i hi; exact ⟨b, off, h1, hk.cell h2 (by simp)⟩, h.2⟩

/-- one bit of the sum. -/
def stp (u : Nat) : Nat := if u % 2 = 1 then (u / 2) ^^^ 3988292384 else u / 2
def stpn : Nat → Nat → Nat
  | 0, u => u
  | n + 1, u => stp (stpn n u)
def crc (u : Nat) (bs : List Nat) : Nat := bs.foldl (fun u c => stpn 8 (u ^^^ c)) u
def sumN (bs : List Nat) : Nat := 4294967295 ^^^ crc 4294967295 bs

theorem xor_lt {a b : Nat} (ha : a < 4294967296) (hb : b < 4294967296) : a ^^^ b < 4294967296 := Nat.xor_lt_two_pow (n := 32) ha hb
theorem stp_lt {u : Nat} (h : u < 4294967296) : stp u < 4294967296 := by
  unfold stp
  split
  · exact xor_lt (by omega) (by omega)
  · omega
theorem stpn_lt {u : Nat} (h : u < 4294967296) : ∀ n, stpn n u < 4294967296
  | 0 => h
  | n + 1 => stp_lt (stpn_lt h n)
theorem crc_snoc (u : Nat) (bs : List Nat) (c : Nat) : crc u (bs ++ [c]) = stpn 8 (crc u bs ^^^ c) := by simp [crc]
theorem crc_lt {u : Nat} (hu : u < 4294967296) : ∀ (bs : List Nat), (∀ x ∈ bs, x < 256) → crc u bs < 4294967296 := by
  intro bs
  induction bs generalizing u with
  | nil => exact fun _ => hu
  | cons c bs ih =>
    intro h
    exact ih (stpn_lt (xor_lt hu (by have := h c (by simp); omega)) 8) (fun x hx => h x (by simp [hx]))

theorem b_xor (a b : Nat) (ha : a < 4294967296) (hb : b < 4294967296) : bits .xor .u32 (a : Int) (b : Int) = ((a ^^^ b : Nat) : Int) := u32_xor_nat a b ha hb
theorem b_and1 (a : Nat) (ha : a < 4294967296) : bits .and .u32 (a : Int) 1 = ((a % 2 : Nat) : Int) := by
  have := u32_and_nat a 1 ha (by omega)
  rwa [Nat.and_one_is_mod] at this

set_option maxHeartbeats 4000000 in
theorem sum_walk (w : World) (so : Option Addr) (cap : Nat) (bs : List Nat) (h : BS w so bs) :
    Calls Try.prog 14 #[.slice so bs.length cap] w fun e w' => e = .returned (.int .u32 (sumN bs)) ∧ w' = w := by
  have HB := hidp h
  have hl := h.2.2
  clear h
  go_enter Try.func14, Try.ntmps14
  go_wp2
  go_loopw [3, 9] (fun u i wr => wr = w ∧ ∃ k : Nat, k ≤ bs.length ∧ i = .int .i64 k ∧ u = .int .u32 (crc 4294967295 (bs.take k))) (fun _ i _ => bs.length - (intOf i).toNat)
  case atStart => exact ⟨rfl, 0, Nat.zero_le _, rfl, rfl⟩
  case round =>
    obtain ⟨rfl, k, hk, rfl, rfl⟩ := hrel
    by_cases hlt : k < bs.length
    · obtain ⟨b, off, rfl, hc⟩ := HB.out.1 k hlt
      have hb := HB.out.2.1 bs[k] (List.getElem_mem hlt)
      obtain ⟨x, hx⟩ : ∃ x, x = bs[k] := ⟨_, rfl⟩
      have hu := crc_lt (u := 4294967295) (by omega) (bs.take k) (fun y hy => HB.out.2.1 y (List.mem_of_mem_take hy))
      obtain ⟨u, hue⟩ : ∃ u, u = crc 4294967295 (bs.take k) := ⟨_, rfl⟩
      rw [← hx] at hc hb
      rw [← hue] at hu ⊢
      have HU := hidp (And.intro hx hue)
      have t1 : decide (k < bs.length) = true := by simpa using hlt
      have t2 : ((k : Int) < bs.length) := by omega
      have hw : IntKind.i64.wrap ((k : Int) + 1) = k + 1 := IntWalk.i64_in _ (by omega)
      have hxor := b_xor u x hu (by omega)
      clear hx hue
      go_wp2
      go_loopw [3, 17] (fun v i wq => wq = wr ∧ ∃ j : Nat, j ≤ 8 ∧ i = .int .i64 j ∧ v = .int .u32 (stpn j (u ^^^ x))) (fun _ i _ => 8 - (intOf i).toNat)
      case atStart => exact ⟨rfl, 0, by omega, rfl, rfl⟩
      case round =>
        obtain ⟨rfl, j, hj, rfl, rfl⟩ := hrel
        have hv := stpn_lt (xor_lt hu (show x < 4294967296 by omega)) j
        by_cases hjl : j < 8
        · have hsucc : stpn (j + 1) (u ^^^ x) = stp (stpn j (u ^^^ x)) := rfl
          obtain ⟨v, hve⟩ : ∃ v, v = stpn j (u ^^^ x) := ⟨_, rfl⟩
          rw [← hve] at hsucc hv ⊢
          have HV := hidp hsucc
          have HV2 := hidp hv
          have t3 : decide (j < 8) = true := by simpa using hjl
          have t3' : decide ((j : Int) < 8) = true := by simp; omega
          have hw2 : IntKind.i64.wrap ((j : Int) + 1) = j + 1 := IntWalk.i64_in _ (by omega)
          have hand := b_and1 v hv
          clear hsucc hve
          by_cases hodd : v % 2 = 1
          · have t4 : (((v % 2 : Nat) : Int) == 1) = true := by simp; omega
            have hx2 := b_xor (v / 2) 3988292384 (by omega) (by omega)
            clear hv hand hxor
            have hand := b_and1 v HV2.out
            go_wp2
            refine ⟨⟨trivial, j + 1, by omega, rfl, ?_⟩, by simp [intOf]; omega⟩
            rw [show (v : Int) / 2 = ((v / 2 : Nat) : Int) by omega, show (3988292384 : Int) = ((3988292384 : Nat) : Int) by rfl, hx2, HV.out, stp, if_pos hodd]
          · have t4 : (((v % 2 : Nat) : Int) == 1) = false := by simp; omega
            clear hv hand hxor
            have hand := b_and1 v HV2.out
            go_wp2
            refine ⟨⟨trivial, j + 1, by omega, rfl, ?_⟩, by simp [intOf]; omega⟩
            rw [HV.out, stp, if_neg hodd]
            rfl
        · obtain rfl : j = 8 := by omega
          have HS := hidp (show crc 4294967295 (bs.take (k + 1)) = stpn 8 (u ^^^ x) by
            rw [List.take_succ_eq_append_getElem hlt, crc_snoc, ← HU.out.1, ← HU.out.2])
          obtain ⟨z, hz⟩ : ∃ z, z = stpn 8 (u ^^^ x) := ⟨_, rfl⟩
          rw [← hz] at HS hv ⊢
          clear hz hxor
          go_wp2
          refine ⟨⟨trivial, k + 1, by omega, rfl, ?_⟩, by simp [intOf]; omega⟩
          rw [HS.out]
    · obtain rfl : k = bs.length := by omega
      rw [List.take_length]
      have hu := crc_lt (u := 4294967295) (by omega) bs HB.out.2.1
      have hsum : sumN bs = 4294967295 ^^^ crc 4294967295 bs := rfl
      obtain ⟨u, hue⟩ : ∃ u, u = crc 4294967295 bs := ⟨_, rfl⟩
      rw [← hue] at hsum hu ⊢
      have HS := hidp hsum
      have hn := b_xor 4294967295 u (by omega) hu
      clear hsum hue
      go_wp2
      go_ret
      refine ⟨?_, rfl⟩
      rw [HS.out, ← hn]
      rfl

set_option maxHeartbeats 4000000 in
theorem refsum_walk (w : World) (so : Option Addr) (cap : Nat) (bs : List Nat) (h : BS w so bs) :
    Calls Try.prog 15 #[.slice so bs.length cap] w fun e w' => e = .returned (.int .u32 (sumN bs)) ∧ w' = w := by
  have HB := hidp h
  have hl := h.2.2
  clear h
  go_enter Try.func15, Try.ntmps15
  go_wp2
  go_loopw [3, 4] (fun u i wr => wr = w ∧ ∃ k : Nat, k ≤ bs.length ∧ i = .int .i64 k ∧ u = .int .u32 (crc 4294967295 (bs.take k))) (fun _ i _ => bs.length - (intOf i).toNat)
  case atStart => exact ⟨rfl, 0, Nat.zero_le _, rfl, rfl⟩
  case round =>
    obtain ⟨rfl, k, hk, rfl, rfl⟩ := hrel
    by_cases hlt : k < bs.length
    · obtain ⟨b, off, rfl, hc⟩ := HB.out.1 k hlt
      have hb := HB.out.2.1 bs[k] (List.getElem_mem hlt)
      obtain ⟨x, hx⟩ : ∃ x, x = bs[k] := ⟨_, rfl⟩
      have hu := crc_lt (u := 4294967295) (by omega) (bs.take k) (fun y hy => HB.out.2.1 y (List.mem_of_mem_take hy))
      obtain ⟨u, hue⟩ : ∃ u, u = crc 4294967295 (bs.take k) := ⟨_, rfl⟩
      rw [← hx] at hc hb
      rw [← hue] at hu ⊢
      have HU := hidp (And.intro hx hue)
      have t1 : decide (k < bs.length) = true := by simpa using hlt
      have t2 : ((k : Int) < bs.length) := by omega
      have hw : IntKind.i64.wrap ((k : Int) + 1) = k + 1 := IntWalk.i64_in _ (by omega)
      have hxor := b_xor u x hu (by omega)
      clear hx hue
      go_wp2
      go_loopw [3, 5] (fun v i wq => wq = wr ∧ ∃ j : Nat, j ≤ 8 ∧ i = .int .i64 j ∧ v = .int .u32 (stpn j (u ^^^ x))) (fun _ i _ => 8 - (intOf i).toNat)
      case atStart => exact ⟨rfl, 0, by omega, rfl, rfl⟩
      case round =>
        obtain ⟨rfl, j, hj, rfl, rfl⟩ := hrel
        have hv := stpn_lt (xor_lt hu (show x < 4294967296 by omega)) j
        by_cases hjl : j < 8
        · have hsucc : stpn (j + 1) (u ^^^ x) = stp (stpn j (u ^^^ x)) := rfl
          obtain ⟨v, hve⟩ : ∃ v, v = stpn j (u ^^^ x) := ⟨_, rfl⟩
          rw [← hve] at hsucc hv ⊢
          have HV := hidp hsucc
          have HV2 := hidp hv
          have t3 : decide (j < 8) = true := by simpa using hjl
          have t3' : decide ((j : Int) < 8) = true := by simp; omega
          have hw2 : IntKind.i64.wrap ((j : Int) + 1) = j + 1 := IntWalk.i64_in _ (by omega)
          have hand := b_and1 v hv
          clear hsucc hve
          by_cases hodd : v % 2 = 1
          · have t4 : (((v % 2 : Nat) : Int) == 1) = true := by simp; omega
            have hx2 := b_xor (v / 2) 3988292384 (by omega) (by omega)
            clear hv hand hxor
            have hand := b_and1 v HV2.out
            go_wp2
            refine ⟨⟨trivial, j + 1, by omega, rfl, ?_⟩, by simp [intOf]; omega⟩
            rw [show (v : Int) / 2 = ((v / 2 : Nat) : Int) by omega, show (3988292384 : Int) = ((3988292384 : Nat) : Int) by rfl, hx2, HV.out, stp, if_pos hodd]
          · have t4 : (((v % 2 : Nat) : Int) == 1) = false := by simp; omega
            clear hv hand hxor
            have hand := b_and1 v HV2.out
            go_wp2
            refine ⟨⟨trivial, j + 1, by omega, rfl, ?_⟩, by simp [intOf]; omega⟩
            rw [HV.out, stp, if_neg hodd]
            rfl
        · obtain rfl : j = 8 := by omega
          have HS := hidp (show crc 4294967295 (bs.take (k + 1)) = stpn 8 (u ^^^ x) by
            rw [List.take_succ_eq_append_getElem hlt, crc_snoc, ← HU.out.1, ← HU.out.2])
          obtain ⟨z, hz⟩ : ∃ z, z = stpn 8 (u ^^^ x) := ⟨_, rfl⟩
          rw [← hz] at HS hv ⊢
          clear hz hxor
          go_wp2
          refine ⟨⟨trivial, k + 1, by omega, rfl, ?_⟩, by simp [intOf]; omega⟩
          rw [HS.out]
    · obtain rfl : k = bs.length := by omega
      rw [List.take_length]
      have hu := crc_lt (u := 4294967295) (by omega) bs HB.out.2.1
      have hsum : sumN bs = 4294967295 ^^^ crc 4294967295 bs := rfl
      obtain ⟨u, hue⟩ : ∃ u, u = crc 4294967295 bs := ⟨_, rfl⟩
      rw [← hue] at hsum hu ⊢
      have HS := hidp hsum
      have hn := b_xor 4294967295 u (by omega) hu
      clear hsum hue
      go_wp2
      go_ret
      refine ⟨?_, rfl⟩
      rw [HS.out, ← hn]
      rfl
end Go.Proofs.Ytgebjmcdebdbmaa
