/- The reference's table: a slice of pairs under a pointer; Parked and Meet. -/
import Derived.Test.YtkiaboaeflbmoaaShardsW
namespace Go.Proofs.Ytkiaboaeflbmoaa
open Go.RowKit Go.Pairs

def prs (L : List (Int × Int)) : List Value := L.flatMap fun p => [.int .i64 p.1, .int .i64 p.2]

theorem prs_len : ∀ (L : List (Int × Int)), (prs L).length = L.length * 2
  | [] => rfl
  | p :: L => by have := prs_len L; simp only [prs, List.flatMap_cons, List.length_append, List.length_cons, List.length_nil] at this ⊢; omega

theorem prs_snoc (L : List (Int × Int)) (p : Int × Int) : prs (L ++ [p]) = prs L ++ [.int .i64 p.1, .int .i64 p.2] := by simp [prs]

theorem prs_get : ∀ (L : List (Int × Int)) (i : Nat) (h : i < L.length), (prs L)[i * 2]? = some (.int .i64 L[i].1) ∧ (prs L)[i * 2 + 1]? = some (.int .i64 L[i].2)
  | p :: L, 0, _ => by simp [prs]
  | p :: L, i + 1, h => by
    obtain ⟨h1, h2⟩ := prs_get L i (by simpa using h)
    have e : prs (p :: L) = .int .i64 p.1 :: .int .i64 p.2 :: prs L := by simp [prs]
    rw [e, show (i + 1) * 2 = i * 2 + 1 + 1 by omega]
    simp only [List.getElem?_cons_succ, List.getElem_cons_succ]
    exact ⟨h1, h2⟩

/-- block c is the reference's table over rows from block B on. -/
structure RT (w : World) (c B m : Nat) (L : List (Int × Int)) (ao : Option Addr) (cap : Nat) : Prop where
  cell : w.heap[c]? = some (.cells #[.slice ao L.length cap, .int .i64 m] 40 (0, 0))
  row : w.ownsRow B 61 2 (.slice ao L.length cap) L.length (prs L)
  lt : c < B
  size : B ≤ w.heap.size

theorem RT.c0 {w : World} {c B m : Nat} {L : List (Int × Int)} {ao : Option Addr} {cap : Nat} (h : RT w c B m L ao cap) : w.cell? ⟨c, 0, none⟩ = some (.slice ao L.length cap) := by simp [World.cell?, h.cell]
theorem RT.c1 {w : World} {c B m : Nat} {L : List (Int × Int)} {ao : Option Addr} {cap : Nat} (h : RT w c B m L ao cap) : w.cell? ⟨c, 1, none⟩ = some (.int .i64 m) := by simp [World.cell?, h.cell]
theorem RT.f {w : World} {c B m : Nat} {L : List (Int × Int)} {ao : Option Addr} {cap : Nat} (h : RT w c B m L ao cap) (o : Nat) : w.frozen? ⟨c, o, none⟩ = false := by simp [World.frozen?, h.cell]

theorem RT.at {w : World} {c B m : Nat} {L : List (Int × Int)} {ao : Option Addr} {cap : Nat} (h : RT w c B m L ao cap) (i : Nat) (hi : i < L.length) : ∃ g, ao = some ⟨g, 0, none⟩ ∧ B ≤ g ∧ g ≠ c ∧ w.cell? ⟨g, i * 2, none⟩ = some (.int .i64 L[i].1) ∧ w.cell? ⟨g, i * 2 + 1, none⟩ = some (.int .i64 L[i].2) := by
  obtain ⟨-, hr⟩ := h.row
  rcases hr with ⟨-, h0⟩ | ⟨g, cap', cur, hv, hB, -⟩
  · omega
  · obtain ⟨rfl, -, rfl⟩ : ao = some ⟨g, 0, none⟩ ∧ L.length = L.length ∧ cap = cap' := by simpa using hv
    have hrow := h.row
    have hlt := h.lt
    obtain ⟨p1, p2⟩ := prs_get L i hi
    refine ⟨g, rfl, hB, by omega, ?_, ?_⟩
    · rw [hrow.cellAt _ (by omega)]; exact p1
    · rw [hrow.cellAt _ (by omega)]; exact p2

theorem RT.keep {w w' : World} {c B m : Nat} {L : List (Int × Int)} {ao : Option Addr} {cap : Nat} (h : RT w c B m L ao cap) {S : Nat → Prop} (hk : Keeps S w w') (hc : ¬ S c) (hr : ∀ k, B ≤ k → ¬ S k) : RT w' c B m L ao cap := by
  refine ⟨(hk.block _ (Nat.lt_of_lt_of_le h.lt h.size) hc).trans h.cell, ?_, h.lt, Nat.le_trans h.size hk.size⟩
  obtain ⟨h1, h2⟩ := h.row
  refine ⟨h1, ?_⟩
  rcases h2 with h2 | ⟨g, cap', cur, hv, hB, hh, r⟩
  · exact .inl h2
  · exact .inr ⟨g, cap', cur, hv, hB, by rw [hk.block g (Array.getElem?_eq_some_iff.1 hh).1 (hr g hB)]; exact hh, r⟩

/-- what is under a key. -/
def rFind (k : Int) (L : List (Int × Int)) : Option Int := (L.find? (fun p => p.1 == k)).map (·.2)

theorem rFind_none {k : Int} {L : List (Int × Int)} (h : ∀ i (hi : i < L.length), L[i].1 ≠ k) : rFind k L = none := by
  unfold rFind
  rw [List.find?_eq_none.2]; rfl
  intro p hp
  obtain ⟨i, hi, rfl⟩ := List.getElem_of_mem hp
  simpa using h i hi

theorem rFind_some {k : Int} : ∀ {L : List (Int × Int)} {j : Nat} (hj : j < L.length), (∀ i (_ : i < j) (hi : i < L.length), L[i].1 ≠ k) → L[j].1 = k → rFind k L = some L[j].2
  | p :: L, 0, _, _, h => by simp at h; simp [rFind, h]
  | p :: L, j + 1, hj, hb, h => by
    have h0 : p.1 ≠ k := hb 0 (by omega) (by simp)
    have := rFind_some (L := L) (j := j) (by simpa using hj) (fun i hi hl => hb (i + 1) (by omega) (by simpa using hl)) (by simpa using h)
    have hp : (p.1 == k) = false := by simpa using h0
    simp only [rFind, List.find?_cons, hp] at this ⊢
    simpa using this

theorem ret_iB {a b : Int} {c d : Bool} (h : a = b) (h' : c = d) : Ending.returned (.tuple #[.int .i64 a, .bool c]) = .returned (.tuple #[.int .i64 b, .bool d]) := by rw [h, h']

theorem rparked {w : World} {c B m : Nat} {L : List (Int × Int)} {ao : Option Addr} {cap : Nat} (T : RT w c B m L ao cap) (hL : L.length ≤ 100000) (k : Int) :
    Calls Try.prog 15 #[.pointer (some ⟨c, 0, none⟩), .int .i64 k] w fun e w' => e = .returned (.tuple #[.int .i64 ((rFind k L).getD 0), .bool (rFind k L).isSome]) ∧ w = w' := by
  have c0 := T.c0
  go_enter Try.func15, Try.ntmps15
  go_wp2_with fail
  go_loop [6] (fun i => ∃ j : Nat, j ≤ L.length ∧ i = .int .i64 j ∧ ∀ i (_ : i < j) (hi : i < L.length), L[i].1 ≠ k) (fun i => L.length - (intOf i).toNat)
  case atStart => exact ⟨0, by omega, rfl, fun i hi => absurd hi (by omega)⟩
  case round =>
    obtain ⟨j, hj, rfl, hb⟩ := hrel
    have HB := hidp hb
    clear hb
    by_cases hlt : j < L.length
    · obtain ⟨g, rfl, hB, hgc, a0, a1⟩ := T.at j hlt
      obtain ⟨p, hp⟩ : ∃ p, L[j].1 = p := ⟨_, rfl⟩
      obtain ⟨q, hq⟩ : ∃ q, L[j].2 = q := ⟨_, rfl⟩
      rw [hp] at a0
      rw [hq] at a1
      have HP := hidp hp
      have HQ := hidp hq
      clear hp hq
      cases hpk : (p == k) with
      | true =>
        have HPK := hidp hpk
        go_wp2_with fail
        go_ret2
        have hf := rFind_some hlt HB.out (by have := HPK.out; simp at this; rw [HP.out]; exact this)
        exact ⟨ret_iB (by rw [hf, HQ.out]; rfl) (by rw [hf]; rfl), rfl⟩
      | false =>
        have HPK := hidp hpk
        go_wp2_with fail
        go_round
        case rel =>
          refine ⟨j + 1, by omega, by go_num, fun i hi hl => ?_⟩
          rcases Nat.lt_succ_iff_lt_or_eq.1 hi with h | h
          · exact HB.out i h hl
          · subst h; have := HPK.out; simp at this; rw [HP.out]; exact this
        case measure => simp [intOf]; omega
    · go_wp2_with fail
      go_ret2
      have hf := rFind_none (k := k) (L := L) (fun i hi => HB.out i (by omega) hi)
      exact ⟨ret_iB (by rw [hf]; rfl) (by rw [hf]; rfl), rfl⟩

theorem info61 : (Try.prog.info? 61).map (fun i => (i.zero, i.size, i.bytes)) = some (some (.agg #[.int .i64 0, .int .i64 0]), 2, 16) := by kernel_rfl

theorem setCell_block {w : World} {c : Nat} {cs : Array Value} {t : TypeId} {fr : Nat × Nat} (h : w.heap[c]? = some (.cells cs t fr)) (o : Nat) (u : Value) : (w.setCell ⟨c, o, none⟩ u).heap[c]? = some (.cells (cs.setIfInBounds o u) t fr) := by
  simp [World.setCell, Array.getElem?_modify, h]

/-- what the reference's Meet leaves. -/
def RMet (c B m : Nat) (L : List (Int × Int)) (k v : Int) (w : World) (e : Ending) (w' : World) : Prop :=
  match rFind k L with
  | some x => e = .returned (.tuple #[.int .i64 x, .bool true]) ∧ (∃ ao cap, RT w' c B (m + 1) (L.filter (fun p => p.1 != k)) ao cap) ∧ Keeps (fun i => i = c ∨ B ≤ i) w w'
  | none => e = .returned (.tuple #[.int .i64 0, .bool false]) ∧ (∃ ao cap, RT w' c B m (L ++ [(k, v)]) ao cap) ∧ Keeps (fun i => i = c ∨ B ≤ i) w w'

theorem slice_of {w : World} {B e sz : Nat} {v : Value} {n : Nat} {xs : List Value} (h : w.ownsRow B e sz v n xs) : ∃ ao cap, v = .slice ao n cap ∧ (0 < n → ∃ g, ao = some ⟨g, 0, none⟩ ∧ B ≤ g) := by
  rcases h.2 with ⟨rfl, rfl⟩ | ⟨g, cap, cur, rfl, hB, -⟩
  · exact ⟨none, 0, rfl, by omega⟩
  · exact ⟨_, cap, rfl, fun _ => ⟨g, rfl, hB⟩⟩

theorem rmeet_miss {w : World} {c B m : Nat} {L : List (Int × Int)} {ao : Option Addr} {cap : Nat} (T : RT w c B m L ao cap) (hL : L.length ≤ 1000) (k v : Int) (hn : rFind k L = none) :
    Calls Try.prog 17 #[.pointer (some ⟨c, 0, none⟩), .int .i64 k, .int .i64 v] w fun e w' => e = .returned (.tuple #[.int .i64 0, .bool false]) ∧ (∃ ao cap, RT w' c B m (L ++ [(k, v)]) ao cap) ∧ Keeps (fun i => i = c ∨ B ≤ i) w w' := by
  obtain ⟨i0, hi, hz0, hz1, hz2⟩ := info_parts info61
  have c0 := T.c0
  have hcB := T.lt
  have hBs := T.size
  have hp := rparked T (by omega) k
  rw [hn] at hp
  have HN := hidp hn
  clear hn
  go_enter Try.func17, Try.ntmps17
  go_wp2_with (first
    | (go_at_call 15; refine hp.mono ?_; rintro e w' ⟨rfl, rfl⟩)
    | (at_builtin; refine wpList_append_own _ rfl _ _ 38 rfl B 61 i0 (.agg #[.int .i64 0, .int .i64 0]) 2 16 Try.underlying38 hi hz0 hz1 hz2 rfl (by decide) _ _ _ rfl (T.row.alloc _) ⟨w.heap.size, 0, none⟩ 1 1 [.int .i64 k, .int .i64 v] rfl rfl ?c1 ?c2 ?c3 ?c4 ?c5 ?_))
  case c1 =>
    intro j u hj
    match j, hj with
    | 0, hj => simp at hj; subst hj; simp [Addr.add]
    | 1, hj => simp at hj; subst hj; simp [Addr.add]
  case c2 => intro u hu; simp at hu; rcases hu with rfl | rfl <;> rfl
  case c3 => unfold maxLen; omega
  case c4 => omega
  case c5 => simp; omega
  intro v' w1 hown' hgrow hnil
  obtain ⟨ao', cap', rfl, hao⟩ := slice_of hown'
  have Kw : Keeps (fun i => i = c ∨ B ≤ i) w w1 := ((Keeps.refl _ w).alloc _).grown hgrow (fun k hk => .inl (.inr (T.row.lt k hk).1))
  have hr1 : w1.heap[c]? = some (.cells #[.slice ao L.length cap, .int .i64 m] 40 (0, 0)) := by
    rw [hgrow.block c (by simp; omega) (fun e => by have := (T.row.lt c e.symm).1; omega), Below.heap_alloc _ _ _ (by omega)]
    exact T.cell
  have d0 : w1.cell? ⟨c, 0, none⟩ = some (.slice ao L.length cap) := by simp [World.cell?, hr1]
  have g0 : w1.frozen? ⟨c, 0, none⟩ = false := by simp [World.frozen?, hr1]
  have hsz : B ≤ w1.heap.size := Nat.le_trans hBs Kw.size
  clear hgrow hnil hp c0
  go_wp2
  go_ret2
  refine ⟨rfl, ⟨ao', cap', ?_, ?_, hcB, by simp; omega⟩, Kw.setCell (.inl (.inl rfl)) _⟩
  · rw [setCell_block hr1]; simp
  · rw [prs_snoc]; simpa using ownsRow_setCell_below hown' (a := ⟨c, 0, none⟩) hcB _

theorem ownsRow_base {w : World} {B B' e sz : Nat} {v : Value} {n : Nat} {xs : List Value} (h : w.ownsRow B e sz v n xs) (hB : B' ≤ B) : w.ownsRow B' e sz v n xs := by
  refine ⟨h.1, ?_⟩
  rcases h.2 with h2 | ⟨g, cap, cur, hv, hg, r⟩
  · exact .inl h2
  · exact .inr ⟨g, cap, cur, hv, by omega, r⟩

theorem filter_take {k : Int} {L : List (Int × Int)} {j : Nat} (h : j < L.length) : (L.take (j + 1)).filter (fun p => p.1 != k) = (L.take j).filter (fun p => p.1 != k) ++ (if L[j].1 != k then [L[j]] else []) := by
  rw [List.take_succ_eq_append_getElem h, List.filter_append]
  simp only [List.filter_cons, List.filter_nil]

theorem rmeet_hit {w : World} {c B m : Nat} {L : List (Int × Int)} {ao : Option Addr} {cap : Nat} (T : RT w c B m L ao cap) (hL : L.length ≤ 1000) (hm : m ≤ 1000) (k v x : Int) (hn : rFind k L = some x) :
    Calls Try.prog 17 #[.pointer (some ⟨c, 0, none⟩), .int .i64 k, .int .i64 v] w fun e w' => e = .returned (.tuple #[.int .i64 x, .bool true]) ∧ (∃ ao cap, RT w' c B (m + 1) (L.filter (fun p => p.1 != k)) ao cap) ∧ Keeps (fun i => i = c ∨ B ≤ i) w w' := by
  obtain ⟨i0, hi, hz0, hz1, hz2⟩ := info_parts info61
  have hcB := T.lt
  have hBs := T.size
  have hp := rparked T (by omega) k
  rw [hn] at hp
  have HN := hidp hn
  clear hn
  go_enter Try.func17, Try.ntmps17
  go_wp2_with (go_at_call 15; refine hp.mono ?_; rintro e w' ⟨rfl, rfl⟩)
  clear hp
  go_loopw [10, 11] (fun o i wr => ∃ (j : Nat) (ao' : Option Addr) (cap' : Nat), j ≤ L.length ∧ i = .int .i64 j ∧ o = .slice ao' ((L.take j).filter (fun p => p.1 != k)).length cap' ∧
      wr.ownsRow w.heap.size 61 2 (.slice ao' ((L.take j).filter (fun p => p.1 != k)).length cap') ((L.take j).filter (fun p => p.1 != k)).length (prs ((L.take j).filter (fun p => p.1 != k))) ∧ Keeps (fun _ => False) w wr) (fun _ i _ => L.length - (intOf i).toNat)
  case atStart => exact ⟨0, none, 0, by omega, rfl, rfl, World.ownsRow_nil _ _ _ _, Keeps.refl _ _⟩
  case round =>
    obtain ⟨j, ao', cap', hj, rfl, rfl, hown, K⟩ := hrel
    have T' := T.keep K (by simp) (by simp)
    have c0 := T'.c0
    have c1 := T'.c1
    have hfl : ((L.take j).filter (fun p => p.1 != k)).length ≤ j := Nat.le_trans (List.length_filter_le _ _) (List.length_take_le _ _)
    by_cases hlt : j < L.length
    · obtain ⟨g, hg, hB, hgc, a0, a1⟩ := T'.at j hlt
      have hft := filter_take (k := k) hlt
      subst hg
      obtain ⟨p, hp⟩ : ∃ p, L[j].1 = p := ⟨_, rfl⟩
      obtain ⟨q, hq⟩ : ∃ q, L[j].2 = q := ⟨_, rfl⟩
      rw [hp] at a0
      rw [hq] at a1
      rw [hp] at hft
      have hLj : L[j] = (p, q) := by rw [← hp, ← hq]
      rw [hLj] at hft
      clear hp hq hLj
      generalize hF : (L.take j).filter (fun p => p.1 != k) = F at *
      have HF := hidp hF
      clear hF
      cases hpk : (p != k) with
      | true =>
        rw [hpk] at hft
        simp only [if_true] at hft
        have HT := hidp hft
        clear hft
        go_wp2_with (at_builtin; refine wpList_append_own _ rfl _ _ 38 rfl w.heap.size 61 i0 (.agg #[.int .i64 0, .int .i64 0]) 2 16 Try.underlying38 hi hz0 hz1 hz2 rfl (by decide) _ _ _ rfl (hown.alloc _) ⟨wr.heap.size, 0, none⟩ 1 1 [.int .i64 p, .int .i64 q] rfl rfl ?c1 ?c2 ?c3 ?c4 ?c5 ?_)
        case c1 =>
          intro j u hj
          match j, hj with
          | 0, hj => simp at hj; subst hj; simp [Addr.add]
          | 1, hj => simp at hj; subst hj; simp [Addr.add]
        case c2 => intro u hu; simp at hu; rcases hu with rfl | rfl <;> rfl
        case c3 => unfold maxLen; omega
        case c4 => omega
        case c5 => have := K.size; simp; omega
        intro v' w1 hown' hgrow hnil
        obtain ⟨ao2, cap2, rfl, hao⟩ := slice_of hown'
        have Kw : Keeps (fun _ => False) w w1 := (K.alloc _).grown hgrow (fun k hk => .inr (hown.lt k hk).1)
        clear hgrow hnil c0 c1 a0 a1 T' hown
        go_wp2
        go_roundw
        case rel =>
          refine ⟨j + 1, ao2, cap2, by omega, by go_num, ?_, ?_, Kw⟩
          · rw [HT.out]; simp
          · rw [HT.out, prs_snoc]; simpa using hown'
        case measure => simp [intOf]; omega
      | false =>
        rw [hpk] at hft
        simp only [Bool.false_eq_true, if_false, List.append_nil] at hft
        have HT := hidp hft
        clear hft
        go_wp2
        go_roundw
        case rel => exact ⟨j + 1, ao', cap', by omega, by go_num, by rw [HT.out], by rw [HT.out]; exact hown, K⟩
        case measure => simp [intOf]; omega
    · obtain rfl : j = L.length := by omega
      rw [List.take_length] at hown ⊢
      have hr1 := T'.cell
      have g0 := T'.f 0
      have g1 := T'.f 1
      generalize hF : L.filter (fun p => p.1 != k) = F at *
      have HF := hidp hF
      clear hF hfl
      have hK : Keeps (fun i => i = c ∨ B ≤ i) w ((wr.setCell ⟨c, 0, none⟩ (.slice ao' F.length cap')).setCell ⟨c, 1, none⟩ (.int .i64 (m + 1))) := ((K.mono (fun _ _ h => h.elim)).setCell (.inl (.inl rfl)) _).setCell (.inl (.inl rfl)) _
      have HK := hidp hK
      have d1 : (wr.setCell ⟨c, 0, none⟩ (.slice ao' F.length cap')).cell? ⟨c, 1, none⟩ = some (.int .i64 m) := by
        rw [World.cell?_setCell_other _ _ _ _ (by simp)]; exact c1
      have hsz := Nat.le_trans hBs K.size
      have hrow : ((wr.setCell ⟨c, 0, none⟩ (.slice ao' F.length cap')).setCell ⟨c, 1, none⟩ (.int .i64 (m + 1))).ownsRow B 61 2 (.slice ao' F.length cap') F.length (prs F) :=
        ownsRow_setCell_below (ownsRow_setCell_below (ownsRow_base hown hBs) (a := ⟨c, 0, none⟩) hcB _) (a := ⟨c, 1, none⟩) hcB _
      have hcell : ((wr.setCell ⟨c, 0, none⟩ (.slice ao' F.length cap')).setCell ⟨c, 1, none⟩ (.int .i64 (m + 1))).heap[c]? = some (.cells #[.slice ao' F.length cap', .int .i64 ((m + 1 : Nat))] 40 (0, 0)) := by
        rw [setCell_block (setCell_block hr1 0 _)]; simp
      have hfin : RT ((wr.setCell ⟨c, 0, none⟩ (.slice ao' F.length cap')).setCell ⟨c, 1, none⟩ (.int .i64 (m + 1))) c B (m + 1) F ao' cap' := ⟨hcell, hrow, hcB, by simp; omega⟩
      have HFIN := hidp hfin
      clear hfin hcell hrow hK K T T' hr1 hown
      go_wp2
      go_ret2
      exact ⟨rfl, ⟨ao', cap', by rw [HF.out]; exact HFIN.out⟩, HK.out⟩

theorem rmeet {w : World} {c B m : Nat} {L : List (Int × Int)} {ao : Option Addr} {cap : Nat} (T : RT w c B m L ao cap) (hL : L.length ≤ 1000) (hm : m ≤ 1000) (k v : Int) :
    Calls Try.prog 17 #[.pointer (some ⟨c, 0, none⟩), .int .i64 k, .int .i64 v] w (RMet c B m L k v w) := by
  cases h : rFind k L with
  | some x => unfold RMet; rw [h]; exact rmeet_hit T hL hm k v x h
  | none => unfold RMet; rw [h]; exact rmeet_miss T hL k v h
end Go.Proofs.Ytkiaboaeflbmoaa
