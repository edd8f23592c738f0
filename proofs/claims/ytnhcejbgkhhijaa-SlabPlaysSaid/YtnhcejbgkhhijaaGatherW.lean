/- Gather: the values of all slabs, slab by slab. -/
import Derived.Test.YtnhcejbgkhhijaaRef3
import Derived.Test.YtnhcejbgkhhijaaSteps
namespace Go.Proofs.Ytnhcejbgkhhijaa
open Go.RowKit Go.Pairs Go.Shelf
attribute [local go_sem] Oper.semAt_some

theorem info3 : (Try.prog.info? 3).map (fun i => (i.zero, i.size, i.bytes)) = some (some (.int .i64 0), 1, 8) := by kernel_rfl

/-- what a slab tells: its values. -/
def vals (L : List Cl) : List Int := (its L L.length).map (·.2.2)
/-- slabs, nil ones between. -/
def pv : Option (Nat × List Cl) → Value
  | none => .pointer none
  | some (c, _) => .pointer (some ⟨c, 0, none⟩)
def valsOf : Option (Nat × List Cl) → List Int
  | none => []
  | some (_, L) => vals L
def gat (ps : List (Option (Nat × List Cl))) : List Int := ps.flatMap valsOf
def ints (zs : List Int) : List Value := zs.map (Value.int .i64)
theorem ints_snoc (zs : List Int) (z : Int) : ints (zs ++ [z]) = ints zs ++ [.int .i64 z] := by simp [ints]

def mark (D : Nat) : Deferred := { target := .collected D, args := #[] }

/-- marks behind: each is shut in turn. -/
theorem leaves_marks {F : Fence} {n : Nat} {P : Program} {fn : Func} {tmps : Array Value} {R : Ending → World → Prop} {u : FrameMode} (hu : u ≠ .run) : ∀ (DS : List Nat) (W : World), (∀ D ∈ DS, W.heap[D]? = some (.deferred (some []))) → DS.Nodup →
    (∀ W', Keeps (fun k => k ∈ DS) W W' → LeavesIn F n P fn tmps R [] u W') → LeavesInM F n P fn tmps R (DS.map mark) u W
  | [], W, _, _, h => h W (Keeps.refl _ W)
  | D :: DS, W, hD, hn, h => by
    obtain ⟨hn1, hn2⟩ := List.nodup_cons.1 hn
    refine ⟨hu, .inl ⟨D, _, rfl, run_takeDeferred (hD D (by simp)), ?_⟩⟩
    refine leaves_marks hu DS _ (fun E hE => ?_) hn2 fun W' hW' => h W' ?_
    · rw [World.putObj_heap_other (by rintro rfl; exact hn1 hE)]
      exact hD E (by simp [hE])
    · have K : Keeps (fun k => k ∈ D :: DS) W (W.putObj D (.deferred none)) := (Keeps.refl _ W).grown (grownBy_putObj' _ D (.deferred none)) (fun k hk => .inl (by simp at hk; subst hk; simp))
      exact K.trans (hW'.mono fun k _ hk => by simp [hk])

/-- the boxed list that Gather builds. -/
structure GI (w : World) (bo : Nat) (zs : List Int) (DS : List Nat) (W : World) : Prop where
  keeps : Keeps (fun _ => False) w W
  box : ∃ oa oc, W.heap[bo]? = some (.cells #[.slice oa zs.length oc] 52 (0, 0)) ∧ W.ownsRow w.heap.size 3 1 (.slice oa zs.length oc) zs.length (ints zs) ∧ some bo ≠ (Value.slice oa zs.length oc).ownBlock
  new : w.heap.size ≤ bo
  marks : ∀ D ∈ DS, w.heap.size ≤ D ∧ W.heap[D]? = some (.deferred (some []))
  nodup : DS.Nodup

theorem own_cells {W : World} {B e sz : Nat} {v : Value} {n : Nat} {xs : List Value} (h : W.ownsRow B e sz v n xs) {k : Nat} (hk : some k = v.ownBlock) : ∃ cur, W.heap[k]? = some (.cells cur e (0, 0)) := by
  rcases h.2 with ⟨h1, h2⟩ | ⟨g, cap, cur, h1, h2, h3, -⟩
  · subst h1; simp [Value.ownBlock] at hk
  · subst h1; simp [Value.ownBlock] at hk; subst hk; exact ⟨cur, h3⟩

theorem GI.turn {w W W' : World} {bo : Nat} {zs : List Int} {DS : List Nat} (h : GI w bo zs DS W) {row : Option Nat} (hg : W.grownBy W' row) (hr : ∀ r, row = some r → w.heap.size ≤ r ∧ r ∉ DS ∧ ∃ o : Obj, W.heap[r]? = some o ∧ o.isCells = false) : GI w bo zs DS W' := by
  obtain ⟨h1, ⟨oa, oc, h2, h3, h4⟩, h5, h6, h7⟩ := h
  have K : Keeps (fun k => some k = row) W W' := (Keeps.refl _ _).grown hg (fun k e => .inl e.symm)
  have hn : ∀ k cs t, W.heap[k]? = some (Obj.cells cs t (0, 0)) → ¬ some k = row := by
    intro k cs t hk e
    obtain ⟨-, -, o, ho, hc⟩ := hr k e.symm
    rw [hk] at ho; cases ho; simp [Obj.isCells] at hc
  refine ⟨h1.then_ K (fun i hi e => by have := (hr i e.symm).1; omega), ⟨oa, oc, (K.block _ (Array.getElem?_eq_some_iff.1 h2).1 (hn _ _ _ h2)).trans h2, keeps_row K h3 (fun k hk => ?_), h4⟩, h5, fun D hD => ⟨(h6 D hD).1, (K.block D (Array.getElem?_eq_some_iff.1 (h6 D hD).2).1 (fun e => (hr D e.symm).2.1 hD)).trans (h6 D hD).2⟩, h7⟩
  obtain ⟨cur, hcur⟩ := own_cells h3 hk.symm
  exact hn _ _ _ hcur

theorem GI.alloc {w W : World} {bo : Nat} {zs : List Int} {DS : List Nat} (h : GI w bo zs DS W) (o : Obj) : GI w bo zs DS (W.alloc o) :=
  h.turn (row := none) (World.grownBy_alloc W o none) (by simp)

theorem GI.push {w W : World} {bo : Nat} {zs : List Int} {DS : List Nat} (h : GI w bo zs DS W) {o : Obj} {oa : Option Addr} {oc : Nat} (hb : W.heap[bo]? = some (.cells #[.slice oa zs.length oc] 52 (0, 0))) (hown : W.ownsRow w.heap.size 3 1 (.slice oa zs.length oc) zs.length (ints zs)) (hne : some bo ≠ (Value.slice oa zs.length oc).ownBlock)
    {v' : Value} {w1 : World} {z : Int} (hown' : w1.ownsRow w.heap.size 3 1 v' (zs.length + 1) (ints zs ++ [.int .i64 z])) (hgr : (W.alloc o).grownBy w1 (Value.slice oa zs.length oc).ownBlock) (hloc : v'.ownBlock = (Value.slice oa zs.length oc).ownBlock ∨ v'.ownBlock = some (W.alloc o).heap.size) :
    w1.heap[bo]? = some (.cells #[.slice oa zs.length oc] 52 (0, 0)) ∧ GI w bo (zs ++ [z]) DS (w1.setCell ⟨bo, 0, none⟩ v') ∧ Keeps (fun k => k = bo ∨ some k = (Value.slice oa zs.length oc).ownBlock) W (w1.setCell ⟨bo, 0, none⟩ v') := by
  have hbl := (Array.getElem?_eq_some_iff.1 hb).1
  have KA : Keeps (fun k => some k = (Value.slice oa zs.length oc).ownBlock) W w1 := ((Keeps.refl _ W).alloc o).grown hgr (fun k e => .inl e.symm)
  have hb1 := (KA.block bo hbl hne).trans hb
  have KB : Keeps (fun k => k = bo) w1 (w1.setCell ⟨bo, 0, none⟩ v') := (Keeps.refl (fun k => k = bo) w1).setCell (p := ⟨bo, 0, none⟩) (.inl rfl) v'
  have KC : Keeps (fun k => k = bo ∨ some k = (Value.slice oa zs.length oc).ownBlock) W (w1.setCell ⟨bo, 0, none⟩ v') := (KA.mono (fun _ _ e => .inr e)).trans (KB.mono (fun _ _ e => .inl e))
  have hnv : some bo ≠ v'.ownBlock := by
    rcases hloc with e | e
    · rw [e]; exact hne
    · rw [e]; simp; omega
  obtain ⟨a', cap', rfl, -⟩ := slice_of hown'
  refine ⟨hb1, ⟨h.keeps.then_ KC (fun i hi e => ?_), ⟨a', cap', ?_, ?_, ?_⟩, h.new, fun D hD => ⟨(h.marks D hD).1, (KC.block D (Array.getElem?_eq_some_iff.1 (h.marks D hD).2).1 (fun e => ?_)).trans (h.marks D hD).2⟩, h.nodup⟩, KC⟩
  · rcases e with rfl | e
    · have := h.new; omega
    · have := own_ge hown i e; omega
  · rw [setCell_block hb1]; simp
  · have := keeps_row KB hown' (fun k hk e => by subst e; exact hnv hk.symm)
    rw [ints_snoc, List.length_append]
    exact this
  · rw [List.length_append]; exact hnv
  · have hm := (h.marks D hD).2
    rcases e with rfl | e
    · rw [hb] at hm; cases hm
    · obtain ⟨cur, hcur⟩ := own_cells hown e
      rw [hcur] at hm; cases hm

theorem vals_len (L : List Cl) : (vals L).length ≤ L.length := by simpa [vals] using its_len L L.length
theorem gat_len : ∀ (ps : List (Option (Nat × List Cl))), (∀ c L, some (c, L) ∈ ps → L.length ≤ 1000) → (gat ps).length ≤ ps.length * 1000
  | [], _ => by simp [gat]
  | p :: ps, h => by
    have h1 := gat_len ps (fun c L hm => h c L (List.mem_cons_of_mem _ hm))
    have h2 : (valsOf p).length ≤ 1000 := by
      cases p with
      | none => simp [valsOf]
      | some q => have := vals_len q.2; have := h q.1 q.2 (by simp); simp only [valsOf]; omega
    have h3 : gat (p :: ps) = valsOf p ++ gat ps := rfl
    rw [h3, List.length_append, List.length_cons]
    omega

/-- the activation behind the assignment. -/
def FramG (bo : Nat) (x : Nat × Nat × Int) (a' : Act) : Prop :=
  ∃ (y0 y1 y2 y3 y4 y5 y7 y8 y9 y11 y12 y13 y14 y15 y16 y17 y18 y19 y20 y21 y22 y23 y24 y25 y26 y27 y28 y29 y30 y31 y32 y33 y34 y35 y36 y37 y38 y39 y40 y41 y42 y43 y44 y45 : Value), a' = { tmps := #[y0, y1, y2, y3, y4, y5, .pointer (some ⟨bo, 0, none⟩), y7, y8, y9, .int .i64 x.2.2, y11, y12, y13, y14, y15, y16, y17, y18, y19, y20, y21, y22, y23, y24, y25, y26, y27, y28, y29, y30, y31, y32, y33, y34, y35, y36, y37, y38, y39, y40, y41, y42, y43, y44, y45], defers := [] }

/-- between two rounds of the loop over the slabs. -/
def GL (w : World) (so : Option Addr) (cap : Nat) (ps : List (Option (Nat × List Cl))) (bo : Nat) (a : Act) (W : World) : Prop :=
  ∃ (k : Nat) (DS : List Nat) (y1 y2 y3 y4 y5 y7 y8 y9 y10 y11 y12 y13 y14 y15 y16 y17 y18 y19 y20 y21 y22 y23 y24 y25 y26 y27 y31 y32 y33 y34 y35 y36 y37 y38 y39 y40 y41 y42 y43 y44 y45 : Value), a = { tmps := #[.slice so ps.length cap, y1, y2, y3, y4, y5, .pointer (some ⟨bo, 0, none⟩), y7, y8, y9, y10, y11, y12, y13, y14, y15, y16, y17, y18, y19, y20, y21, y22, y23, y24, y25, y26, y27, .slice so ps.length cap, .int .i64 ps.length, .int .i64 k, y31, y32, y33, y34, y35, y36, y37, y38, y39, y40, y41, y42, y43, y44, y45], defers := DS.map mark } ∧ k ≤ ps.length ∧ GI w bo (gat (ps.take k)) DS W

theorem gat_succ {ps : List (Option (Nat × List Cl))} {k : Nat} (h : k < ps.length) : gat (ps.take (k + 1)) = gat (ps.take k) ++ valsOf ps[k] := by
  unfold gat
  rw [List.take_succ_eq_append_getElem h, List.flatMap_append]
  simp

set_option maxRecDepth 100000 in
set_option maxHeartbeats 4000000 in
theorem gather (w : World) (so : Option Addr) (cap : Nat) (ps : List (Option (Nat × List Cl))) (hl : ps.length ≤ 1000)
    (hrow : ∀ i (h : i < ps.length), ∃ b off, so = some ⟨b, off, none⟩ ∧ w.cell? ⟨b, off + i, none⟩ = some (pv ps[i]))
    (hsl : ∀ c L, some (c, L) ∈ ps → L.length ≤ 1000 ∧ ∃ v g low, SL_i w c v g L low) :
    Calls Try.prog 21 #[.slice so ps.length cap] w fun e w' => (∃ oa oc, e = .returned (.slice oa (gat ps).length oc) ∧ w'.ownsRow w.heap.size 3 1 (.slice oa (gat ps).length oc) (gat ps).length (ints (gat ps))) ∧ Keeps (fun _ => False) w w' := by
  obtain ⟨i0, hi, hz0, hz1, hz2⟩ := info_parts info3
  refine (callsIn_wide (n := 3)).1 ?_
  refine callsIn_of_wp_marks Try.func21 rfl trivial ?_ rfl
  simp only [Try.ntmps21, List.size_toArray, List.length_cons, List.length_nil, Nat.reduceAdd, Nat.reduceSub, Array.replicate_succ, Array.replicate_zero, List.push_toArray, List.append_toArray, List.nil_append, List.cons_append]
  have HR := hidp hrow
  have HS := hidp hsl
  clear hrow hsl
  gi_wp2
  gi_loopw [3, 13] (fun s i wr => wr = w ∧ ∃ k m : Nat, k ≤ ps.length ∧ m ≤ k * 1000 ∧ s = .int .i64 m ∧ i = .int .i64 k) (fun _ i _ => ps.length - (intOf i).toNat)
  case atStart => exact ⟨rfl, 0, 0, Nat.zero_le _, by omega, rfl, rfl⟩
  case round =>
    obtain ⟨rfl, k, m, hk, hm, rfl, rfl⟩ := hrel
    by_cases hlt : k < ps.length
    · obtain ⟨b, off, rfl, hcell⟩ := HR.out k hlt
      have t1 : decide (k < ps.length) = true := by simpa using hlt
      have t2 : ((k : Int) < ps.length) := by omega
      have hw : IntKind.i64.wrap ((k : Int) + 1) = k + 1 := IntWalk.i64_in _ (by omega)
      cases hp : ps[k] with
      | none =>
        rw [hp] at hcell
        simp only [pv] at hcell
        clear hp
        gi_wp2
        go_roundw
        case rel => exact ⟨by simp, k + 1, m, by omega, by omega, by simp, by simp⟩
        case measure => simp [intOf]; omega
      | some q =>
        obtain ⟨c, L⟩ := q
        rw [hp] at hcell
        simp only [pv] at hcell
        obtain ⟨hL, v, g, low, hsl⟩ := HS.out c L (hp ▸ List.getElem_mem hlt)
        have c1 : wr.cell? ⟨c, 1, none⟩ = some (.int .i64 (cnt L)) := cells_at hsl.cell 1
        obtain ⟨q, hq⟩ : ∃ q, q = cnt L := ⟨_, rfl⟩
        have hq2 : q ≤ 1000 := by have := cnt_le L; omega
        rw [← hq] at c1
        have hw2 : IntKind.i64.wrap ((m : Int) + q) = (m : Int) + q := IntWalk.i64_in _ (by omega)
        clear hp hsl hq
        gi_wp2
        go_roundw
        case rel => exact ⟨by simp, k + 1, m + q, by omega, by omega, by simp, by simp⟩
        case measure => simp [intOf]; omega
    · obtain rfl : k = ps.length := by omega
      have t1 : decide (ps.length < ps.length) = false := by simp
      clear hk
      gi_wp2_with (gi_at_make; refine wpListIn_make_own _ rfl _ _ 52 rfl wr.heap.size 3 i0 (.int .i64 0) 1 Try.underlying52 hi hz0 hz1 .i64 .i64 m m rfl rfl rfl (by rw [hz2]; omega) (by unfold maxLen; omega) (Nat.le_refl _) ?_; intro w1 hown1 hgr1)
      have K1 : Keeps (fun _ => False) wr w1 := (Keeps.refl _ _).grown hgr1 (fun k hk => by simp at hk)
      obtain ⟨bo, hbo⟩ : ∃ bo, bo = w1.heap.size := ⟨_, rfl⟩
      obtain ⟨W2, hW2⟩ : ∃ W2, W2 = w1.alloc (.cells #[.slice (some ⟨wr.heap.size, 0, none⟩) 0 m] 52) := ⟨_, rfl⟩
      have hG : GI wr bo [] [] W2 := by
        obtain ⟨cur, hcur⟩ := own_cells hown1 (k := wr.heap.size) rfl
        have hlt := (Array.getElem?_eq_some_iff.1 hcur).1
        have K2 : Keeps (fun _ => False) w1 W2 := hW2 ▸ (Keeps.refl _ _).alloc _
        refine ⟨K1.trans K2, ⟨_, m, ?_, keeps_row K2 hown1 (by simp), ?_⟩, hbo ▸ K1.size, by simp, by simp⟩
        · rw [hbo, hW2]; exact heap_alloc_new _ _
        · simp [Value.ownBlock]; omega
      have HG := hidp hG
      clear hown1 hgr1 K1 hG
      gi_wp2
      rw [← hW2]
      simp only [← hbo]
      clear hW2 hbo
      refine wpIn_loop (GL wr so cap ps bo) (fun a _ => ps.length - (intOf (a.tmps.getD 30 undef)).toNat) ?_ ?_
      · exact ⟨0, [], _, _, _, _, _, _, _, _, _, _, _, _, _, _, _, _, _, _, _, _, _, _, _, _, _, _, _, _, _, _, _, _, _, _, _, _, _, _, _, _, _, rfl, Nat.zero_le _, HG.out⟩
      · rintro a W ⟨k, DS, y1, y2, y3, y4, y5, y7, y8, y9, y10, y11, y12, y13, y14, y15, y16, y17, y18, y19, y20, y21, y22, y23, y24, y25, y26, y27, y31, y32, y33, y34, y35, y36, y37, y38, y39, y40, y41, y42, y43, y44, y45, rfl, hk, hG⟩
        clear HG
        by_cases hlt : k < ps.length
        · obtain ⟨b, off, rfl, hcell⟩ := HR.out k hlt
          have hcell := hG.keeps.cell hcell (by simp)
          have t1 : decide (k < ps.length) = true := by simpa using hlt
          have t2 : ((k : Int) < ps.length) := by omega
          have hw : IntKind.i64.wrap ((k : Int) + 1) = k + 1 := IntWalk.i64_in _ (by omega)
          have HGI := hidp hG
          have hgat := gat_succ hlt
          cases hp : ps[k] with
          | none =>
            rw [hp] at hcell hgat
            simp only [pv] at hcell
            have HGT := hidp hgat
            clear hp hG hgat
            gi_wp2
            refine ⟨⟨k + 1, DS, _, _, _, _, _, _, _, _, _, _, _, _, _, _, _, _, _, _, _, _, _, _, _, _, _, _, _, _, _, _, _, _, _, _, _, _, _, _, _, _, _, rfl, by omega, ?_⟩, ?_⟩
            · rw [HGT.out]
              simpa [valsOf] using HGI.out
            · simp [intOf]; omega
          | some q =>
            obtain ⟨c, L⟩ := q
            rw [hp] at hcell hgat
            simp only [pv] at hcell
            obtain ⟨hL, v, g, low, hsl⟩ := HS.out c L (hp ▸ List.getElem_mem hlt)
            have HC0 := hidp (lt_of_cell (cells_at hsl.cell 0))
            have hsl := hsl.keep hG.keeps (by simp) (by simp)
            have HGT := hidp hgat
            have HSL := hidp hsl
            clear hp hG hgat hsl
            gi_wp2
            refine ⟨trivial, (all_in Fence.wide _ trivial rfl c _).mono ?_⟩
            rintro e W8 ⟨rfl, hW8⟩
            have hG8 : GI wr bo (gat (ps.take k)) DS W8 := hW8 ▸ HGI.out.alloc _
            have hsl8 : SL_i W8 c v g L low := by
              rw [hW8]
              exact HSL.out.keep ((Keeps.refl (fun _ => False) W).alloc _) (by simp) (by simp)
            have hB8 : W8.cell? ⟨W.heap.size, 0, none⟩ = some (.pointer (some ⟨c, 0, none⟩)) := by rw [hW8]; exact cells_at (heap_alloc_new W _) 0
            have hc8 := lt_of_cell (cells_at hsl8.cell 0)
            have HG8 := hidp hG8
            have HSL8 := hidp hsl8
            clear hG8 hsl8 HSL HGI hW8
            gi_wp2
            refine wpIn_rangeFunc_ownH rfl (by omega) (gf := 29) (lb := #[.pointer (some ⟨W.heap.size, 0, none⟩)]) rfl trivial (enters_of Try.func29 (by kernel_rfl) rfl)
              (all_stops Fence.wide _ trivial rfl (by omega) W.heap.size c v g L low W8 hB8 HSL8.out) (fun h k => Kp.trans h k) (fun W l o o' h1 h2 h3 h4 => Kp.put hc8 W l o o' h1 h2 h3 h4) (Below.refl _ _) (fun _ => rfl)
              (fun pre W => GI wr bo (gat (ps.take k) ++ pre.map (·.2.2)) DS W)
              (fun _ _ _ => False)
              ?hI ?hIx ?h0 (fun x a' _ => FramG bo x a') ?hAx ?assign ?body ?done ?stop
            case hI =>
              intro pre W W' row h hg hr
              refine h.turn hg fun r e => ?_
              obtain ⟨h1, h2⟩ := hr r e
              have hs8 := HG8.out.keeps.size
              refine ⟨by omega, fun hD => ?_, h2⟩
              have := (Array.getElem?_eq_some_iff.1 (HG8.out.marks r hD).2).1
              omega
            case hIx => exact fun _ _ _ _ _ h => h.elim
            case h0 => simpa using HG8.out
            case hAx => exact fun x a' _ _ _ _ h _ _ => h
            case assign =>
              intro l pre x W K hi hK
              simp only [hnd]
              gi_wp2
              exact hK _ _ ((KeepsOthers.refl _).from _) (Kp.refl _ _) hi ⟨_, _, _, _, _, _, _, _, _, _, _, _, _, _, _, _, _, _, _, _, _, _, _, _, _, _, _, _, _, _, _, _, _, _, _, _, _, _, _, _, _, _, _, _, rfl⟩
            case body =>
              rintro l pre x a' W hl hrec hG ⟨y0, y1, y2, y3, y4, y5, y7, y8, y9, y11, y12, y13, y14, y15, y16, y17, y18, y19, y20, y21, y22, y23, y24, y25, y26, y27, y28, y29, y30, y31, y32, y33, y34, y35, y36, y37, y38, y39, y40, y41, y42, y43, y44, y45, rfl⟩ hlen
              obtain ⟨zs, hzs⟩ : ∃ zs, zs = gat (ps.take k) ++ pre.map (·.2.2) := ⟨_, rfl⟩
              have hzl : zs.length ≤ 2000000 := by
                rw [hzs, List.length_append, List.length_map]
                have := gat_len (ps.take k) (fun c L hm => (HS.out c L (List.mem_of_mem_take hm)).1)
                simp only [List.length_take] at this
                omega
              rw [← hzs] at hG
              obtain ⟨oa, oc, hbox, hown, hne⟩ := hG.box
              have hbl := (Array.getElem?_eq_some_iff.1 hbox).1
              have hsz := hG.keeps.size
              have hnew := hG.new
              have hc9 : c < wr.heap.size := HC0.out
              have c_o : W.cell? ⟨bo, 0, none⟩ = some (.slice oa zs.length oc) := cells_at hbox 0
              have HZ := hidp hzs
              have HGG := hidp hG
              have HBX := hidp hbox
              have HOW := hidp (And.intro hown hne)
              clear hzs hG hbox hown hne
              gi_wp2_with (gi_at_builtin; refine wpListIn_append_own_at _ rfl _ _ 52 rfl wr.heap.size 3 i0 (.int .i64 0) 1 8 Try.underlying52 hi hz0 hz1 hz2 rfl (by decide) _ _ _ rfl (HOW.out.1.alloc _) ⟨W.heap.size, 0, none⟩ 1 1 [.int .i64 x.2.2] rfl rfl (cell_one_new _ _ _) ?c2 ?c3 ?c4 ?c5 ?_)
              case c2 => simp [Value.oneCell']
              case c3 => unfold maxLen; omega
              case c4 => omega
              case c5 => simp; omega
              intro v' w1 hown' hgr hnil hloc
              obtain ⟨hb1, hG1, hK1⟩ := HGG.out.push HBX.out HOW.out.1 HOW.out.2 hown' hgr (by simpa using hloc)
              obtain ⟨a', cap', rfl, -⟩ := slice_of hown'
              have c_o := cells_at hb1 0
              have f_o := free_at hb1 0
              simp only [List.getElem?_toArray, List.getElem?_cons_zero] at c_o
              have hkp : Kp c W (w1.setCell ⟨bo, 0, none⟩ (.slice a' (zs.length + 1) cap')) := by
                refine kp_of_keeps hK1 (fun e => ?_) (by omega) (fun k cs hk e => ?_)
                · rcases e with rfl | e
                  · omega
                  · have := own_ge HOW.out.1 c e; omega
                · rcases e with rfl | e
                  · rw [HBX.out] at hk; simp at hk
                  · obtain ⟨cur, hcur⟩ := own_cells HOW.out.1 e
                    rw [hcur] at hk; simp at hk
              have hko := others_of_keeps hK1 (fun k o e hk => by
                rcases e with rfl | e
                · rw [HBX.out] at hk; cases hk; rfl
                · obtain ⟨cur, hcur⟩ := own_cells HOW.out.1 e
                  rw [hcur] at hk; cases hk; rfl)
              have HF := hidp (And.intro hkp (And.intro hko hG1))
              clear hkp hko hG1 hK1 hb1 hgr hown' hnil hloc HGG HBX HOW
              gi_wp2
              refine ⟨HF.out.2.1.from _, HF.out.1, ?_⟩
              have := HF.out.2.2
              rwa [show zs ++ [x.2.2] = gat (ps.take k) ++ (pre ++ [x]).map (·.2.2) by rw [HZ.out]; simp] at this
            case done =>
              intro D xs W hD hS hG hK
              have hDw := HG8.out.keeps.size
              have hDS : D ∉ DS := fun h => by
                have := (Array.getElem?_eq_some_iff.1 (HG8.out.marks D h).2).1
                omega
              have hG' : GI wr bo (gat (ps.take (k + 1))) (D :: DS) W := by
                rw [HGT.out, valsOf, vals, ← hS]
                exact ⟨hG.keeps, hG.box, hG.new, fun E hE => by
                  rcases List.mem_cons.1 hE with rfl | hE
                  · exact ⟨by omega, hK⟩
                  · exact hG.marks E hE, List.nodup_cons.2 ⟨hDS, hG.nodup⟩⟩
              have HF := hidp hG'
              clear hG hG' hK hDS hS
              gi_wp2
              refine ⟨⟨k + 1, D :: DS, _, _, _, _, _, _, _, _, _, _, _, _, _, _, _, _, _, _, _, _, _, _, _, _, _, _, _, _, _, _, _, _, _, _, _, _, _, _, _, _, _, rfl, by omega, HF.out⟩, ?_⟩
              simp [intOf]; omega
            case stop =>
              intro D cd pre W hD hSp h hK
              exact h.elim
        · obtain rfl : k = ps.length := by omega
          rw [List.take_length] at hG
          have t1 : decide (ps.length < ps.length) = false := by simp
          obtain ⟨oa, oc, hbox, hown, hne⟩ := hG.box
          have c_o : W.cell? ⟨bo, 0, none⟩ = some (.slice oa (gat ps).length oc) := cells_at hbox 0
          have HGG := hidp hG
          have HOW := hidp (And.intro hown hne)
          clear hG hbox hown hne hk
          gi_wp2
          refine leaves_marks (by simp) DS W (fun D hD => (HGG.out.marks D hD).2) HGG.out.nodup fun W' hW' => ?_
          have hK : Keeps (fun _ => False) wr W' := HGG.out.keeps.then_ hW' (fun i hi hD => by have := (HGG.out.marks i hD).1; omega)
          have hown' := keeps_row hW' HOW.out.1 (fun k hk hD => by
            obtain ⟨cur, hcur⟩ := own_cells HOW.out.1 hk.symm
            have hm := (HGG.out.marks k hD).2
            rw [hcur] at hm; cases hm)
          exact ⟨_, by simp [results, Try.results21, go_sem], ⟨oa, oc, rfl, hown'⟩, hK⟩
end Go.Proofs.Ytnhcejbgkhhijaa
