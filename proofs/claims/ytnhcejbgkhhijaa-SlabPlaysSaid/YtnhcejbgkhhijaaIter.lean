/- All: the loop over a function: its contract. -/
import Derived.RangeFuncNested
import Derived.RangeFuncBound
import Derived.RangeFuncCalls
import Derived.RangeFuncLeaves
import Derived.Shelf.Abstract
import Derived.Shelf.RegionOpen
import Derived.OwnWalkIn
import Derived.Maps.OwnIn
import Derived.TacticsInMore
import Derived.LoopNIn
import Derived.LoopIn
import Derived.Test.YtnhcejbgkhhijaaAwake
namespace Go.Proofs.Ytnhcejbgkhhijaa
open Go.RowKit Go.Pairs Go.Shelf
attribute [local go_sem] Oper.semAt_some

/-- the row of the slab in block c. -/
def rowOf (W : World) (c : Nat) : Option Nat := match W.cell? ⟨c, 0, none⟩ with
  | some v => v.ownBlock
  | none => none

/-- what a round keeps: rows of slots that are not the slab's. -/
def Kp (c : Nat) (W W' : World) : Prop := W.heap.size ≤ W'.heap.size ∧ ∀ k cs, W.heap[k]? = some (.cells cs 61 (0, 0)) → rowOf W c ≠ some k → W'.heap[k]? = some (.cells cs 61 (0, 0)) ∧ rowOf W' c ≠ some k

theorem Kp.trans {c : Nat} {A B C : World} (h : Kp c A B) (k : Kp c B C) : Kp c A C :=
  ⟨Nat.le_trans h.1 k.1, fun i cs h1 h2 => by obtain ⟨h3, h4⟩ := h.2 i cs h1 h2; exact k.2 i cs h3 h4⟩
theorem Kp.refl (c : Nat) (W : World) : Kp c W W := ⟨Nat.le_refl _, fun _ _ h h' => ⟨h, h'⟩⟩
theorem cell_of_heap {W W' : World} {p : Addr} (h : W'.heap[p.block]? = W.heap[p.block]?) : W'.cell? p = W.cell? p := by
  simp only [World.cell?, h]
theorem rowOf_of {W W' : World} {c : Nat} (h : W'.heap[c]? = W.heap[c]?) : rowOf W' c = rowOf W c := by
  unfold rowOf
  rw [cell_of_heap (p := ⟨c, 0, none⟩) h]
theorem Kp.put {c B : Nat} (hc : c < B) (W : World) (l : Nat) (o o' : Obj) (hl : B ≤ l) (h : W.heap[l]? = some o) (ho : o.isCells = false) (_ : o.isWalk = false) : Kp c W (W.putObj l o') := by
  refine ⟨by simp, fun k cs h1 h2 => ?_⟩
  have hk : k ≠ l := by rintro rfl; rw [h] at h1; cases h1; simp [Obj.isCells] at ho
  exact ⟨(World.putObj_heap_other hk).trans h1, by rw [rowOf_of (World.putObj_heap_other (by omega))]; exact h2⟩

/-- what All tells of the first k slots. -/
def its (L : List Cl) (k : Nat) : List (Nat × Nat × Int) := (List.range k).filterMap fun i => match L[i]? with
  | some d => if d.has then some (i, d.gen, intOf d.x) else none
  | none => none
theorem its_yes {L : List Cl} {k : Nat} (h : k < L.length) (hh : L[k].has = true) : its L (k + 1) = its L k ++ [(k, L[k].gen, intOf L[k].x)] := by
  simp [its, List.range_succ, List.getElem?_eq_getElem h, hh]
theorem its_no {L : List Cl} {k : Nat} (h : k < L.length) (hh : L[k].has = false) : its L (k + 1) = its L k := by
  simp [its, List.range_succ, List.getElem?_eq_getElem h, hh]
theorem its_len (L : List Cl) (k : Nat) : (its L k).length ≤ k := by
  have := List.length_filterMap_le (fun i => match L[i]? with
    | some d => if d.has then some (i, d.gen, intOf d.x) else none
    | none => none) (List.range k)
  simpa [its] using this

def hnd (x : Nat × Nat × Int) : Array Value := #[.agg #[.int .i64 x.1, .int .i64 x.2.1], .int .i64 x.2.2]

set_option maxRecDepth 100000 in
set_option maxHeartbeats 4000000 in
theorem all1_in (F : Fence) (n : Nat) (h29 : F.fn 29) (hro : F.round = none) (hn : 1 ≤ n) (l Bs c k0 cap0 : Nat) (L : List Cl) (cur0 : Array Value) (J Jx : List (Nat × Nat × Int) → World → Prop)
    (hY : ∀ pre x W, J pre W → pre.length < L.length → YieldAt F (n - 1) Try.prog l (hnd x) W fun e W' =>
      (e = .returned (.bool true) ∧ J (pre ++ [x]) W' ∧ Kp c W W') ∨ (e = .returned (.bool false) ∧ Jx (pre ++ [x]) W'))
    (W : World) (hJ : AbidesFrom W.heap.size J) (hBs : W.cell? ⟨Bs, 0, none⟩ = some (.pointer (some ⟨c, 0, none⟩)))
    (hc0 : W.cell? ⟨c, 0, none⟩ = some (.slice (some ⟨k0, 0, none⟩) L.length cap0)) (hk0 : W.heap[k0]? = some (.cells cur0 61 (0, 0))) (hcur : cur0.toList.take (L.length * 3) = flat L) (hL : L.length ≤ 1000000)
    (hels : ∀ d ∈ L, ∃ x, d.x = Value.int .i64 x) (h0 : J [] W) :
    CallsIn F n Try.prog 29 #[.func (.yield l) #[] #[], .pointer (some ⟨Bs, 0, none⟩)] W fun e W' => (∃ v, e = .returned v) ∧
      ((∃ ys, ys = its L L.length ∧ J ys W') ∨ (∃ pre, (∃ k, k ≤ L.length ∧ pre = its L k) ∧ Jx pre W')) := by
  obtain ⟨i0, hi, hz0, hz1, hz2⟩ := info_parts info61
  have hnews : ∀ j u, (flat L)[j]? = some u → W.cell? ((⟨k0, 0, none⟩ : Addr).add j) = some u := by
    intro j u hj
    have hjl : j < L.length * 3 := by
      have := (List.getElem?_eq_some_iff.1 hj).1
      rwa [flat_len] at this
    rw [show (⟨k0, 0, none⟩ : Addr).add j = ⟨k0, j, none⟩ by unfold Addr.add; split <;> simp_all, cells_at hk0, cur_at hcur hjl, hj]
  have HN := hidp hnews
  have HFL := hidp (flat_len L)
  have HONE : Hid (∀ u ∈ flat L, u.oneCell' = true) := hidp (by
    intro u hu
    simp only [flat, List.mem_flatMap, Cl.vals] at hu
    obtain ⟨d, hd, hu⟩ := hu
    obtain ⟨x, hx⟩ := hels d hd
    simp [hx] at hu
    rcases hu with rfl | rfl | rfl <;> rfl)
  have HY := hidp hY
  have HJ := hidp hJ
  have HK0 := hidp hk0
  have HELS := hidp hels
  clear hnews hY hJ hk0 hcur hels
  refine callsIn_of_wp Try.func29 rfl h29 ?_ hro
  simp only [Try.ntmps29, List.size_toArray, List.length_cons, List.length_nil, Nat.reduceAdd, Nat.reduceSub, Array.replicate_succ, Array.replicate_zero, List.push_toArray, List.append_toArray, List.nil_append, List.cons_append]
  gi_wp2_with (gi_at_builtin; refine wpListIn_append_own_at _ rfl _ _ 57 rfl 0 61 i0 (.agg #[.int .i64 0, .bool false, .int .i64 0]) 3 24 Try.underlying57 hi hz0 hz1 hz2 rfl (by decide) (.slice none 0 0) 0 [] rfl (World.ownsRow_nil ..) ⟨k0, 0, none⟩ L.length cap0 (flat L) rfl HFL.out HN.out HONE.out ?c3 ?c4 (Nat.zero_le _) ?_)
  case c3 => unfold maxLen; omega
  case c4 => omega
  intro v' w1 hown1 hgr1 hnil1 hloc1
  have K1 : Keeps (fun _ => False) W w1 := (Keeps.refl _ _).grown hgr1 (fun k hk => by simp [Value.ownBlock] at hk)
  have hJ1 : J [] w1 := HJ.out _ _ _ _ h0 hgr1 (fun r e => by simp [Value.ownBlock] at e)
  have hcs := lt_of_cell hc0
  have hks := (Array.getElem?_eq_some_iff.1 HK0.out).1
  have hrow1 : rowOf w1 c = some k0 := by
    have := K1.cell hc0 (by simp)
    unfold rowOf
    rw [this]
    rfl
  obtain ⟨a', cap', rfl, -⟩ := slice_of hown1
  by_cases hlen : L.length = 0
  · have hJ2 : J (its L 0) w1 := hJ1
    clear hown1 hgr1 hnil1 hloc1 HY HJ HN HFL HONE hJ1
    gi_wp2
    gi_loopw [13] (fun i wr => i = .int .i64 0 ∧ J (its L 0) wr) (fun _ _ => 0)
    case atStart => exact ⟨rfl, hJ2⟩
    case round =>
      obtain ⟨rfl, hJs⟩ := hrel
      gi_wp2
      go_end0
      exact ⟨⟨_, rfl⟩, .inl ⟨_, rfl, by rw [hlen]; exact hJs⟩⟩
  · obtain ⟨b, cur1, rfl, hb1, hb2⟩ : ∃ b cur1, a' = some ⟨b, 0, none⟩ ∧ w1.heap[b]? = some (.cells cur1 61 (0, 0)) ∧ cur1.toList.take (L.length * 3) = flat L := by
      rcases hown1.2 with ⟨-, h⟩ | ⟨b, cap1, cur1, h1, -, h3, -, -, -, h7⟩
      · omega
      · simp at h1
        exact ⟨b, cur1, h1.1, h3, h7⟩
    have hbW : b = W.heap.size := by
      rcases hloc1 with h | h
      · simp [Value.ownBlock] at h
      · simpa [Value.ownBlock] using h
    have hne1 : rowOf w1 c ≠ some b := by rw [hrow1]; simp; omega
    have hsz1 := K1.size
    have HTK := hidp hb2
    have hJ2 : J (its L 0) w1 := hJ1
    clear hown1 hgr1 hnil1 hloc1 HN HFL HONE K1 hJ1 hrow1 hb2 hbW
    gi_wp2
    gi_loopw [13] (fun i wr => ∃ k : Nat, k ≤ L.length ∧ i = .int .i64 k ∧ J (its L k) wr ∧ wr.heap[b]? = some (.cells cur1 61 (0, 0)) ∧ rowOf wr c ≠ some b ∧ W.heap.size ≤ wr.heap.size) (fun i _ => L.length - (intOf i).toNat)
    case atStart => exact ⟨0, Nat.zero_le _, rfl, hJ2, hb1, hne1, hsz1⟩
    case round =>
      obtain ⟨k, hk, rfl, hJs, hb, hne, hsz⟩ := hrel
      clear hJ2 hb1 hne1 hsz1
      by_cases hlt : k < L.length
      · obtain ⟨g0, g1, g2⟩ := flat_get L k hlt
        have r0 : wr.cell? ⟨b, k * 3, none⟩ = some (.int .i64 L[k].gen) := by rw [cells_at hb, cur_at HTK.out (by omega), g0]
        have r1 : wr.cell? ⟨b, k * 3 + 1, none⟩ = some (.bool L[k].has) := by rw [cells_at hb, cur_at HTK.out (by omega), g1]
        have r2 : wr.cell? ⟨b, k * 3 + 2, none⟩ = some L[k].x := by rw [cells_at hb, cur_at HTK.out (by omega), g2]
        obtain ⟨x, hx⟩ := HELS.out L[k] (List.getElem_mem hlt)
        rw [hx] at r2
        have hJ3 : J (its L k) (wr.alloc (.cells #[.int .i64 L[k].gen, .bool L[k].has, .int .i64 x] 61)) := HJ.out _ _ _ none hJs ⟨rfl, rfl, rfl, by simp, fun i hi _ => heap_alloc_old wr _ i hi⟩ (by simp)
        have hb3 : (wr.alloc (.cells #[.int .i64 L[k].gen, .bool L[k].has, .int .i64 x] 61)).heap[b]? = some (.cells cur1 61 (0, 0)) := (heap_alloc_old wr _ b (Array.getElem?_eq_some_iff.1 hb).1).trans hb
        have hix : intOf L[k].x = x := by rw [hx]; rfl
        have hcw : c < wr.heap.size := by omega
        have hne3 : rowOf (wr.alloc (.cells #[.int .i64 L[k].gen, .bool L[k].has, .int .i64 x] 61)) c ≠ some b := by rw [rowOf_of (heap_alloc_old wr _ c hcw)]; exact hne
        clear g0 g1 g2 hJs
        cases hh : L[k].has with
        | true =>
          rw [hh] at r1 hJ3 hb3 hne3
          obtain ⟨fn, tmps, assign, body, hy, hR⟩ := HY.out (its L k) (k, L[k].gen, x) _ hJ3 (by have := its_len L k; omega)
          dsimp only [hnd] at hy
          have HIX := hidp hix
          have HHH := hidp hh
          have HB := hidp (And.intro hb3 hne3)
          clear hJ3 hix hh hx hb hne hb3 hne3
          gi_wp2
          refine hR.mono ?_
          rintro e W3 (⟨rfl, hJ3, hk3⟩ | ⟨rfl, hJx3⟩)
          · gi_wp2
            go_roundw
            case rel =>
              obtain ⟨h1, h2⟩ := hk3.2 b cur1 HB.out.1 HB.out.2
              refine ⟨k + 1, by omega, by simp, ?_, h1, h2, by have := hk3.1; simp at this; omega⟩
              rw [its_yes hlt HHH.out, HIX.out]
              exact hJ3
            case measure => simp [intOf]; omega
          · gi_wp2
            refine bodyPost_ret (results_none rfl _ _ _) rfl ?_
            refine ⟨⟨_, rfl⟩, .inr ⟨_, ⟨k + 1, by omega, rfl⟩, ?_⟩⟩
            rw [its_yes hlt HHH.out, HIX.out]
            exact hJx3
        | false =>
          rw [hh] at r1 hJ3 hb3 hne3
          have HHH := hidp hh
          have HB := hidp (And.intro hb3 hne3)
          clear hix hh hx hb hne hb3 hne3
          gi_wp2
          refine ⟨fun _ h => (by cases h), ?_⟩
          gi_wp2
          go_roundw
          case rel =>
            refine ⟨k + 1, by omega, by simp, ?_, HB.out.1, HB.out.2, by simp; omega⟩
            rw [its_no hlt HHH.out]
            exact hJ3
          case measure => simp [intOf]; omega
      · obtain rfl : k = L.length := by omega
        gi_wp2
        go_end0
        exact ⟨⟨_, rfl⟩, .inl ⟨_, rfl, hJs⟩⟩

set_option maxRecDepth 100000 in
set_option maxHeartbeats 4000000 in
theorem all1_nil_in (F : Fence) (n : Nat) (h29 : F.fn 29) (hro : F.round = none) (l Bs c : Nat) (J : List (Nat × Nat × Int) → World → Prop) (W : World) (hBs : W.cell? ⟨Bs, 0, none⟩ = some (.pointer (some ⟨c, 0, none⟩)))
    (hc0 : W.cell? ⟨c, 0, none⟩ = some (.slice none 0 0)) (h0 : J [] W) :
    CallsIn F n Try.prog 29 #[.func (.yield l) #[] #[], .pointer (some ⟨Bs, 0, none⟩)] W fun e W' => (∃ v, e = .returned v) ∧ J [] W' := by
  obtain ⟨i0, hi, hz0, hz1, hz2⟩ := info_parts info61
  refine callsIn_of_wp Try.func29 rfl h29 ?_ hro
  simp only [Try.ntmps29, List.size_toArray, List.length_cons, List.length_nil, Nat.reduceAdd, Nat.reduceSub, Array.replicate_succ, Array.replicate_zero, List.push_toArray, List.append_toArray, List.nil_append, List.cons_append]
  gi_wp2
  gi_loopw [13] (fun i wr => i = .int .i64 0 ∧ J [] wr) (fun _ _ => 0)
  case atStart => exact ⟨rfl, h0⟩
  case round =>
    obtain ⟨rfl, hJs⟩ := hrel
    gi_wp2
    go_end0
    exact ⟨⟨_, rfl⟩, hJs⟩

set_option maxRecDepth 100000 in
/-- All: the slab is boxed; the function value captures the box. -/
theorem all_in (F : Fence) (n : Nat) (h20 : F.fn 20) (hro : F.round = none) (c : Nat) (w : World) :
    CallsIn F n Try.prog 20 #[.pointer (some ⟨c, 0, none⟩)] w fun e w' => e = .returned (.func (.func 29) #[] #[.pointer (some ⟨w.heap.size, 0, none⟩)]) ∧ w' = w.alloc (.cells #[.pointer (some ⟨c, 0, none⟩)] 23) := by
  refine callsIn_of_wp Try.func20 rfl h20 ?_ hro
  simp only [Try.ntmps20, List.size_toArray, List.length_cons, List.length_nil, Nat.reduceAdd, Nat.reduceSub, Array.replicate_succ, Array.replicate_zero, List.push_toArray, List.append_toArray, List.nil_append, List.cons_append]
  gi_wp2
  go_ret
  exact ⟨rfl, rfl⟩

theorem all_stops (F : Fence) (n : Nat) (h29 : F.fn 29) (hro : F.round = none) (hn : 1 ≤ n) (Bs c : Nat) (v : Value) (g : Option Nat) (L : List Cl) (low : Nat) (w : World) (hB : w.cell? ⟨Bs, 0, none⟩ = some (.pointer (some ⟨c, 0, none⟩))) (h : SL_i w c v g L low) :
    SeqStopsK F n Try.prog 29 #[.pointer (some ⟨Bs, 0, none⟩)] hnd (Kp c) (fun ys => ys = its L L.length) (fun pre => ∃ k, k ≤ L.length ∧ pre = its L k) L.length w := fun l J Jx W hW hJ _ hY h0 => by
  have hc := h.cell
  have hB' := (hW.cell (p := ⟨Bs, 0, none⟩) (lt_of_cell hB)).trans hB
  have hc0 : w.cell? ⟨c, 0, none⟩ = some v := cells_at hc 0
  have hc0' := (hW.cell (p := ⟨c, 0, none⟩) (lt_of_cell hc0)).trans hc0
  have hlen := h.len
  have hels := h.els
  cases h.row with
  | none_ he =>
    subst he
    exact (all1_nil_in F n h29 hro l Bs c J W hB' hc0' h0).mono fun e W' hh => ⟨hh.1, .inl ⟨_, rfl, hh.2⟩⟩
  | row k cap cur h1 h2 h3 h4 h5 h6 =>
    exact all1_in F n h29 hro hn l Bs c k cap L cur J Jx hY W hJ hB' hc0' ((hW.block k (Array.getElem?_eq_some_iff.1 h2).1).trans h2) h6 hlen hels h0
end Go.Proofs.Ytnhcejbgkhhijaa
