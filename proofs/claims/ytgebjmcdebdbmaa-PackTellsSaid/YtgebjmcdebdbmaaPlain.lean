/- Plain law: what is written comes back; a burst of turned bits never reads. -/
import Derived.Test.YtgebjmcdebdbmaaReadS
namespace Go.Proofs.Ytgebjmcdebdbmaa
open Go.RowKit Go.Pairs

def okN (bs : List Nat) : Option (List P3) := match bodyN bs with | none => none | some l => if chk l = 0 ∧ writeV l = bs then some l else none
def okL (bs : List Nat) : List P3 := (okN bs).getD []
def errN (bs : List Nat) : Int := if (okN bs).isSome then 0 else 190

theorem pw9 {i n : Nat} (hi : i ≤ 9) (hn : 128 ≤ n) (h : n * 128 ^ i < 18446744073709551616) : i + 1 ≤ 9 := by
  by_cases h9 : i = 9
  · subst h9; omega
  · omega

theorem tk_uint (more : List Nat) : ∀ (n i a : Nat), i ≤ 9 → n * 128 ^ i < 18446744073709551616 → (i = 0 ∨ 0 < n) → tk i a (uintN n ++ more) = some (a + n * 128 ^ i, i + (uintN n).length) := by
  intro n
  induction n using Nat.strongRecOn with
  | _ n ih =>
    intro i a hi h h0
    by_cases hn : n < 128
    · rw [uintN_small hn]
      simp only [List.cons_append, List.nil_append, tk, List.length_cons, List.length_nil]
      rw [if_neg (by omega), if_neg (by omega), if_neg, Nat.mod_eq_of_lt hn]
      rintro (⟨rfl, h1⟩ | ⟨h1, h2⟩)
      · omega
      · omega
    · have hi9 := pw9 hi (by omega) h
      rw [uintN_big hn]
      simp only [List.cons_append, tk, List.length_cons]
      rw [if_neg (by omega), if_pos (by omega)]
      have hp : n / 128 * 128 ^ (i + 1) ≤ n * 128 ^ i := by
        rw [Nat.pow_succ, Nat.mul_comm (128 ^ i), ← Nat.mul_assoc]
        exact Nat.mul_le_mul_right _ (Nat.div_mul_le_self n 128)
      rw [ih (n / 128) (by omega) (i + 1) _ hi9 (by omega) (.inr (by omega))]
      congr 1
      rw [Prod.mk.injEq]
      refine ⟨?_, by omega⟩
      rw [show (n % 128 + 128) % 128 = n % 128 by omega, Nat.pow_succ, Nat.mul_comm (128 ^ i), ← Nat.mul_assoc, Nat.add_assoc, ← Nat.add_mul, show n % 128 + n / 128 * 128 = n by omega]

theorem takeN_uint {n : Nat} (h : n < 18446744073709551616) (more : List Nat) : takeN (uintN n ++ more) = some (n, (uintN n).length) := by
  have := tk_uint more n 0 0 (by omega) (by omega) (.inl rfl)
  simpa [takeN] using this

theorem whole_zig (n : Int) : whole (zig n) = n := by
  unfold whole zig
  by_cases h : n < 0
  · rw [if_pos h, if_pos (by omega)]; omega
  · rw [if_neg h, if_neg (by omega)]; omega

/-- the bytes of m points from the k-th on. -/
def sufK (ps : List P3) : Nat → Nat → List Nat
  | _, 0 => []
  | k, m + 1 => stx ps k ++ (sty ps k ++ (stz ps k ++ sufK ps (k + 1) m))
theorem body_suf (ps : List P3) : ∀ (m k : Nat), bodyK ps (k + m) = bodyK ps k ++ sufK ps k m
  | 0, k => by simp [sufK]
  | m + 1, k => by
    rw [show k + (m + 1) = (k + 1) + m by omega, body_suf ps m (k + 1), bodyK, sufK]
    simp

theorem step1_u (m : Nat) (f : List Nat → P3 → Option (List P3)) (d : Int) (h : -2147483648 ≤ d ∧ d ≤ 2147483648) (rest : List Nat) (l : P3) : step1 m f (uintN (zig d) ++ rest) l = f rest (bump l m d) := by
  have hz : zig d ≤ 1099511627776 := by unfold zig; split <;> omega
  unfold step1
  rw [takeN_uint (by omega)]
  simp only
  rw [if_neg (by omega), List.drop_left, whole_zig]

theorem okp_at {ps : List P3} (h : ps.all okp = true) (k : Nat) (hk : k < ps.length) : okp (ps.getD k (0, 0, 0)) = true := by
  rw [List.getD_eq_getElem?_getD, List.getElem?_eq_getElem hk, Option.getD_some]
  exact List.all_eq_true.1 h _ (List.getElem_mem hk)

theorem pv_okp {ps : List P3} (h : ps.all okp = true) : ∀ k, k ≤ ps.length → okp (pv ps k) = true
  | 0, _ => by show okp (0, 0, 0) = true; decide
  | k + 1, hk => okp_at h k hk

theorem okp_in {p : P3} (h : okp p = true) : (-1073741824 ≤ p.1 ∧ p.1 ≤ 1073741824) ∧ (-1073741824 ≤ p.2.1 ∧ p.2.1 ≤ 1073741824) ∧ (-1073741824 ≤ p.2.2 ∧ p.2.2 ≤ 1073741824) := by
  simp only [okp, Bool.and_eq_true] at h
  exact ⟨okc_yes h.1.1, okc_yes h.1.2, okc_yes h.2⟩

theorem go_suf {ps : List P3} (h : ps.all okp = true) (more : List Nat) : ∀ (m k : Nat), k + m = ps.length → goN m (sufK ps k m ++ more) (pv ps k) = some (ps.drop k)
  | 0, k, hk => by rw [goN, List.drop_of_length_le (by omega)]
  | m + 1, k, hk => by
    have hkl : k < ps.length := by omega
    have ih := go_suf h more m (k + 1) (by omega)
    have h1 := okp_in (okp_at h k hkl)
    have h2 := okp_in (pv_okp h k (by omega))
    rw [goN]
    show step1 0 (step1 1 (step1 2 _)) _ _ = _
    simp only [sufK, stx, sty, stz, u1, List.append_assoc]
    rw [step1_u _ _ _ (by omega), step1_u _ _ _ (by omega), step1_u _ _ _ (by omega)]
    have hb : bump (bump (bump (pv ps k) 0 ((ps.getD k (0, 0, 0)).1 - (pv ps k).1)) 1 ((ps.getD k (0, 0, 0)).2.1 - (pv ps k).2.1)) 2 ((ps.getD k (0, 0, 0)).2.2 - (pv ps k).2.2) = ps.getD k (0, 0, 0) := by
      obtain ⟨a, b, c⟩ := pv ps k
      obtain ⟨x, y, z⟩ := ps.getD k (0, 0, 0)
      simp only [bump, Prod.mk.injEq]
      omega
    rw [hb]
    rw [show ps.getD k (0, 0, 0) = pv ps (k + 1) from rfl, ih]
    rw [Option.map_some, List.drop_eq_getElem_cons hkl]
    congr 2
    show ps.getD k (0, 0, 0) = _
    rw [List.getD_eq_getElem?_getD, List.getElem?_eq_getElem hkl, Option.getD_some]

theorem chk_in {ps : List P3} (h : chk ps = 0) : ps.length ≤ 512 ∧ ps.all okp = true := by
  unfold chk at h
  split at h
  · omega
  split at h
  · exact ⟨by omega, by assumption⟩
  · omega

theorem body_write {ps : List P3} (h : chk ps = 0) : bodyN (writeN ps) = some ps := by
  obtain ⟨hl, ha⟩ := chk_in h
  unfold writeN front
  rw [List.cons_append, List.cons_append]
  unfold bodyN
  simp only [if_true]
  rw [List.append_assoc, takeN_uint (by omega)]
  simp only
  rw [if_neg (by omega), List.drop_left]
  have h1 := body_suf ps ps.length 0
  rw [Nat.zero_add, bodyK, List.nil_append] at h1
  rw [h1]
  have := go_suf ha (fourN (sumN (67 :: (uintN ps.length ++ sufK ps 0 ps.length)))) ps.length 0 (by omega)
  rw [List.drop_zero] at this
  exact this

theorem ok_write {ps : List P3} (h : chk ps = 0) : okN (writeV ps) = some ps := by
  have e : writeV ps = writeN ps := if_pos h
  unfold okN
  rw [e, body_write h]
  exact if_pos ⟨h, e⟩

theorem write_inj {ps qs : List P3} (h : chk ps = 0) (h2 : chk qs = 0) (e : writeV ps = writeV qs) : ps = qs := by
  have h3 := ok_write h
  rw [e, ok_write h2] at h3
  exact (Option.some.inj h3).symm

theorem ok_from {bs : List Nat} {l : List P3} (h : okN bs = some l) : chk l = 0 ∧ writeV l = bs := by
  unfold okN at h
  split at h
  · cases h
  split at h
  · obtain rfl := Option.some.inj h
    assumption
  · cases h

theorem write_len {ps : List P3} : 6 ≤ (writeN ps).length := by
  have := uintN_pos ps.length
  simp only [writeN, front, List.length_append, List.length_cons, fourN, List.length_nil]
  omega

/- THE SUM. -/
theorem xor_mod2 (a b : Nat) : (a ^^^ b) % 2 = (a % 2 + b % 2) % 2 := by
  have h : ∀ n : Nat, n % 2 = (n.testBit 0).toNat := fun n => by rw [Nat.testBit_zero]; rcases Nat.mod_two_eq_zero_or_one n with h | h <;> simp [h]
  rw [h (a ^^^ b), h a, h b, Nat.testBit_xor]
  cases a.testBit 0 <;> cases b.testBit 0 <;> rfl
theorem xor_half (a b : Nat) : (a ^^^ b) / 2 = (a / 2) ^^^ (b / 2) := by
  have := Nat.shiftRight_xor_distrib (a := a) (b := b) (i := 1)
  simpa [Nat.shiftRight_eq_div_pow] using this
theorem xor_mul (a b k : Nat) : (a ^^^ b) * 2 ^ k = (a * 2 ^ k) ^^^ (b * 2 ^ k) := by
  have := Nat.shiftLeft_xor_distrib (a := a) (b := b) (i := k)
  simpa [Nat.shiftLeft_eq] using this

theorem stp_xor (a b : Nat) : stp (a ^^^ b) = stp a ^^^ stp b := by
  unfold stp
  rw [xor_mod2, xor_half]
  rcases Nat.mod_two_eq_zero_or_one a with ha | ha <;> rcases Nat.mod_two_eq_zero_or_one b with hb | hb
  · simp [ha, hb]
  · simp [ha, hb, Nat.xor_assoc]
  · simp only [ha, hb]
    simp only [if_true, Nat.zero_ne_one, if_false]
    ac_rfl
  · simp only [ha, hb]
    simp only [if_true]
    rw [if_neg (by omega), show (a / 2 ^^^ 3988292384) ^^^ (b / 2 ^^^ 3988292384) = (a / 2 ^^^ b / 2) ^^^ (3988292384 ^^^ 3988292384) by ac_rfl, Nat.xor_self, Nat.xor_zero]
theorem stp_zero : stp 0 = 0 := rfl
theorem stp_two (x : Nat) : stp (2 * x) = x := by
  unfold stp; rw [if_neg (by omega)]; omega
theorem stpn_xor (a b : Nat) : ∀ n, stpn n (a ^^^ b) = stpn n a ^^^ stpn n b
  | 0 => rfl
  | n + 1 => by rw [stpn, stpn_xor a b n, stp_xor]; rfl
theorem stpn_zero : ∀ n, stpn n 0 = 0
  | 0 => rfl
  | n + 1 => by rw [stpn, stpn_zero n]; rfl
theorem stpn_add (a : Nat) : ∀ n m, stpn (n + m) a = stpn n (stpn m a)
  | 0, m => by rw [Nat.zero_add]; rfl
  | n + 1, m => by rw [show n + 1 + m = (n + m) + 1 by omega, stpn, stpn_add a n m]; rfl
theorem stpn_pow (x : Nat) : ∀ n, stpn n (x * 2 ^ n) = x
  | 0 => by simp [stpn]
  | n + 1 => by
    rw [stpn_add _ n 1]
    rw [Nat.pow_succ, ← Nat.mul_assoc, Nat.mul_comm _ 2]
    show stpn n (stp (2 * (x * 2 ^ n))) = x
    rw [stp_two, stpn_pow x n]
theorem stp_ne {u : Nat} (h : u < 4294967296) (h0 : stp u = 0) : u = 0 := by
  unfold stp at h0
  split at h0
  · have h1 : u / 2 = 3988292384 := by
      have := congrArg (· ^^^ 3988292384) h0
      simp only [Nat.xor_assoc, Nat.xor_self, Nat.xor_zero, Nat.zero_xor] at this
      exact this
    omega
  · omega
theorem stpn_ne {u : Nat} (h : u < 4294967296) : ∀ n, stpn n u = 0 → u = 0
  | 0, h0 => h0
  | n + 1, h0 => stpn_ne h n (stp_ne (stpn_lt h n) h0)

/-- bytes as one number. -/
def num : List Nat → Nat
  | [] => 0
  | c :: l => c ^^^ (num l * 2 ^ 8)
theorem crc_num : ∀ (bs : List Nat) (u : Nat), crc u bs = stpn (8 * bs.length) (u ^^^ num bs)
  | [], u => by simp [crc, num, stpn]
  | c :: l, u => by
    have ih := crc_num l (stpn 8 (u ^^^ c))
    show crc (stpn 8 (u ^^^ c)) l = _
    rw [ih, num, ← Nat.xor_assoc, List.length_cons, show 8 * (l.length + 1) = 8 * l.length + 8 by omega, stpn_add, stpn_xor (u ^^^ c), stpn_pow]
theorem num_set : ∀ (bs : List Nat) (i e : Nat) (h : i < bs.length), num (bs.set i (bs[i] ^^^ e)) = num bs ^^^ (e * 2 ^ (8 * i))
  | c :: l, 0, e, h => by
    simp only [List.set_cons_zero, List.getElem_cons_zero, num, Nat.mul_zero, Nat.pow_zero, Nat.mul_one]
    ac_rfl
  | c :: l, i + 1, e, h => by
    simp only [List.set_cons_succ, List.getElem_cons_succ, num]
    rw [num_set l i e (by simpa using h), xor_mul, Nat.mul_assoc e, ← Nat.pow_add, show 8 * i + 8 = 8 * (i + 1) by omega]
    ac_rfl

theorem num_mod {c n : Nat} (hc : c < 256) : (c ^^^ (n * 2 ^ 8)) % 256 = c ∧ (c ^^^ (n * 2 ^ 8)) / 256 = n := by
  have h1 : (c ^^^ (n * 2 ^ 8)) = n * 2 ^ 8 + c := by
    rw [Nat.xor_comm, Nat.mul_comm, Nat.two_pow_add_eq_or_of_lt (i := 8) (b := c) hc n]
    apply Nat.eq_of_testBit_eq
    intro j
    rw [Nat.testBit_xor, Nat.testBit_or, Nat.testBit_two_pow_mul]
    by_cases hj : j < 8
    · simp [Nat.not_le.2 hj]
    · have h28 : (2 : Nat) ^ 8 ≤ 2 ^ j := Nat.pow_le_pow_right (by decide) (Nat.not_lt.1 hj)
      rw [Nat.testBit_lt_two_pow (show c < 2 ^ j by omega)]
      simp
  rw [h1]
  constructor <;> omega
theorem num_inj : ∀ (a b : List Nat), a.length = b.length → (∀ x ∈ a, x < 256) → (∀ x ∈ b, x < 256) → num a = num b → a = b
  | [], [], _, _, _, _ => rfl
  | c :: l, d :: m, hl, ha, hb, e => by
    simp only [num] at e
    have h1 := num_mod (n := num l) (ha c (by simp))
    have h2 := num_mod (n := num m) (hb d (by simp))
    rw [e] at h1
    have hcd : c = d := h1.1.symm.trans h2.1
    have := num_inj l m (by simpa using hl) (fun x hx => ha x (by simp [hx])) (fun x hx => hb x (by simp [hx])) (h1.2.symm.trans h2.2)
    rw [hcd, this]

theorem num_four {s : Nat} (hs : s < 4294967296) : num (fourN s) = s := by
  have key : ∀ c n, c < 256 → c ^^^ (n * 2 ^ 8) = n * 256 + c := fun c n hc => by
    have := num_mod (n := n) hc
    omega
  simp only [fourN, num]
  rw [key _ _ (by omega), key _ _ (by omega), key _ _ (by omega), key _ _ (by omega)]
  omega
/-- what is written has one remainder. -/
theorem crc_write (ps : List P3) : crc 4294967295 (writeN ps) = stpn 32 4294967295 := by
  unfold writeN
  have h1 := crc_lt (u := 4294967295) (by omega) (front ps ps.length) (front_lt ps ps.length)
  have h2 : crc 4294967295 (front ps ps.length ++ fourN (sumN (front ps ps.length))) = crc (crc 4294967295 (front ps ps.length)) (fourN (sumN (front ps ps.length))) := by simp [crc]
  rw [h2, crc_num]
  unfold sumN
  rw [num_four (xor_lt (by omega) h1)]
  generalize crc 4294967295 (front ps ps.length) = u
  show stpn 32 (u ^^^ (4294967295 ^^^ u)) = _
  rw [show u ^^^ (4294967295 ^^^ u) = 4294967295 ^^^ (u ^^^ u) by ac_rfl, Nat.xor_self, Nat.xor_zero]

/-- A BURST: what is written, p (below 2^32, not nought) turned at place s: no list's own. -/
theorem burst {ps : List P3} {b : List Nat} {p s : Nat} (hl : b.length = (writeN ps).length) (hn : num b = num (writeN ps) ^^^ (p * 2 ^ s)) (hp : p < 4294967296) (hp0 : p ≠ 0) (hs : s ≤ 8 * b.length) : okN b = none := by
  cases hb : okN b with
  | none => rfl
  | some l =>
    exfalso
    obtain ⟨hc, hw⟩ := ok_from hb
    have hw' : writeN l = b := by rw [← hw]; exact (if_pos hc).symm
    have h1 := crc_write l
    have h2 := crc_write ps
    rw [hw', crc_num, hn, ← Nat.xor_assoc, stpn_xor, hl, ← crc_num, h2] at h1
    have h3 : stpn (8 * (writeN ps).length) (p * 2 ^ s) = 0 := by
      have := congrArg (stpn 32 4294967295 ^^^ ·) h1
      simp only [← Nat.xor_assoc, Nat.xor_self, Nat.zero_xor] at this
      exact this
    rw [← hl, show 8 * b.length = (8 * b.length - s) + s by omega, stpn_add, stpn_pow] at h3
    exact hp0 (stpn_ne hp _ h3)
end Go.Proofs.Ytgebjmcdebdbmaa
