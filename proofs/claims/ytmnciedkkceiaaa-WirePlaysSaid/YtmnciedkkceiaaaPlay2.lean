/- The document's Send, Recv, Close: the walks. -/
import Derived.Test.YtmnciedkkceiaaaPlay1
namespace Go.Proofs.Ytmnciedkkceiaaa
open Go.RowKit Go.Pairs

theorem wpList_more {ops : Array Oper} {rest : List Oper} {o : Oper} {a : Act} {w w0 : World} {Q : Exit → Act → World → Prop} (hgd : o.guard = none) (s x : Operand)
    (ho : o.op = .call { callee := .builtin .append, args := #[s, x], argTypes := #[41, 41] })
    (lv : Value) (L : List Int) (n : Int) (hs : a.eval s = lv) (h : SubRow w0 lv L) (hl : L.length ≤ 65536) (hw : w = w0.alloc (.cells #[.int .i64 n] 3)) (hx : a.eval x = .slice (some ⟨w0.heap.size, 0, none⟩) 1 1)
    (hh : ∀ v' w', SubRow w' v' (L ++ [n]) → (v'.ownBlock = lv.ownBlock ∨ ∃ k, v'.ownBlock = some k ∧ w.heap.size ≤ k) → Keeps (fun k => some k = lv.ownBlock) w w' → wpList Try.prog ops Q rest (a.put o.dst v') w') :
    wpList Try.prog ops Q (o :: rest) a w := by
  refine wpList_plain hgd fun K hK => ?_
  obtain ⟨v', w', hr, h2, h3, h5⟩ := run_more w w0 o.type lv L n h hl hw
  unfold Oper.wp execOp
  simp only [ho, resolve, invoke, builtin, Sem.run_bind, Sem.run_pure, Result.andThen_ok, List.map_toArray, List.map_cons, List.map_nil, hs, hx, hr]
  exact hK _ _ (hh v' w' h2 h3 h5)

def ints (L : List Int) : List Value := L.map fun (n : Int) => Value.int .i64 n

set_option maxRecDepth 100000 in
theorem rsend {w : World} {d : Nat} {lv : Value} {room : Nat} {closed : Bool} {L : List Int} (h : Rf w d lv room closed L) (x : Int) :
    Calls Try.prog 20 #[.pointer (some ⟨d, 0, none⟩), .int .i64 x] w fun e w' => e = .returned (.int .i64 (sendCode closed L.length room)) ∧ Rdid w d lv room closed (if closed then L else if L.length = room then L else L ++ [x]) w' := by
  have c2 : w.cell? ⟨d, 2, none⟩ = some (.bool closed) := cells_at h.cell 2
  have c1 : w.cell? ⟨d, 1, none⟩ = some (.int .i64 room) := cells_at h.cell 1
  have c0 : w.cell? ⟨d, 0, none⟩ = some lv := cells_at h.cell 0
  have f0 := free_at h.cell 0
  obtain ⟨oa, cap, rfl⟩ := h.row.shape
  have H := hidp h
  cases closed with
  | true =>
    clear h
    go_enter Try.func20, Try.ntmps20
    go_wp2
    go_ret
    exact ⟨by simp [sendCode], by simpa using rdid_refl H.out⟩
  | false =>
    by_cases hf : L.length = room
    · have t1 : ((L.length : Int) == (room : Int)) = true := by simp; omega
      have HF := hidp hf
      clear h hf
      go_enter Try.func20, Try.ntmps20
      go_wp2
      go_quiet (fail)
      go_wp2
      go_ret
      exact ⟨by first | (simp [sendCode]; done) | simp [sendCode, HF.out], by have := rdid_drewN H.out nq; first | exact this | (rw [HF.out] at this; exact this)⟩
    · have t1 : ((L.length : Int) == (room : Int)) = false := by simp; omega
      have HF := hidp hf
      have hl65 : L.length ≤ 65536 := Nat.le_trans h.len h.most
      clear h hf
      go_enter Try.func20, Try.ntmps20
      go_wp2
      go_quiet (fail)
      have HR : ∀ n, SubRow (w.drewN n) (.slice oa L.length cap) L := fun n => H.out.row.keep (keeps_drewN (Keeps.refl (fun _ => False) w) n) (by simp)
      go_wp2_with (at_builtin; refine wpList_more rfl _ _ rfl (.slice oa L.length cap) L x rfl (HR _) hl65 rfl rfl ?_)
      intro v' W2 hrow hloc K2
      have KW : Keeps (fun k => some k = (Value.slice oa L.length cap).ownBlock) w W2 := (Keeps.alloc (keeps_drewN (Keeps.refl _ w) _) _).trans K2
      have hd := (Array.getElem?_eq_some_iff.1 H.out.cell).1
      have hcell : W2.heap[d]? = some (.cells #[.slice oa L.length cap, .int .i64 room, .bool false] 59 (0, 0)) := (KW.block d hd (fun e => H.out.ne e.symm)).trans H.out.cell
      have hloc2 : v'.ownBlock = (Value.slice oa L.length cap).ownBlock ∨ ∃ k, v'.ownBlock = some k ∧ w.heap.size ≤ k := hloc.imp id fun ⟨k, h1, h2⟩ => ⟨k, h1, Nat.le_trans (by simp) h2⟩
      have hne : v'.ownBlock ≠ some d := by
        rcases hloc2 with e | ⟨k, e, hk⟩
        · rw [e]; exact H.out.ne
        · rw [e]; intro e2; cases e2; omega
      obtain ⟨oa', c', rfl⟩ := hrow.shape
      have K3 : Keeps (fun k => k = d) W2 (W2.setCell ⟨d, 0, none⟩ (.slice oa' (L ++ [x]).length c')) := (Keeps.refl (fun k => k = d) W2).setCell (p := ⟨d, 0, none⟩) (.inl rfl) _
      have hfin : Rdid w d (.slice oa L.length cap) room false (L ++ [x]) (W2.setCell ⟨d, 0, none⟩ (.slice oa' (L ++ [x]).length c')) := by
        refine ⟨.slice oa' (L ++ [x]).length c', ⟨?_, hrow.keep K3 (fun k e e2 => hne (by rw [e, e2])), hne, ?_, H.out.most⟩, hloc2, ?_⟩
        · rw [setCell_block hcell]; simp
        · have := H.out.len; have := HF.out; rw [List.length_append]; simp; omega
        · exact (KW.mono fun k _ e => .inr e).trans (K3.mono fun k _ e => .inl e)
      have HFIN := hidp hfin
      have c0' : W2.cell? ⟨d, 0, none⟩ = some (.slice oa L.length cap) := cells_at hcell 0
      have f0' := free_at hcell 0
      clear hfin K3 hne hloc2 hcell KW K2 hloc hrow HR
      go_wp2
      go_ret
      exact ⟨by simp [sendCode, HF.out], by first | exact HFIN.out | (rw [if_neg HF.out]; exact HFIN.out) | simpa [HF.out] using HFIN.out⟩

set_option maxRecDepth 100000 in
theorem rclose {w : World} {d : Nat} {lv : Value} {room : Nat} {closed : Bool} {L : List Int} (h : Rf w d lv room closed L) :
    Calls Try.prog 24 #[.pointer (some ⟨d, 0, none⟩)] w fun e w' => e = .returned (.int .i64 (if closed then 102 else 0)) ∧ Rdid w d lv room true L w' := by
  have c2 : w.cell? ⟨d, 2, none⟩ = some (.bool closed) := cells_at h.cell 2
  have f2 := free_at h.cell 2
  have H := hidp h
  cases closed with
  | true =>
    clear h
    go_enter Try.func24, Try.ntmps24
    go_wp2
    go_ret
    exact ⟨rfl, rdid_refl H.out⟩
  | false =>
    have K3 : Keeps (fun k => k = d) w (w.setCell ⟨d, 2, none⟩ (.bool true)) := (Keeps.refl (fun k => k = d) w).setCell (p := ⟨d, 2, none⟩) (.inl rfl) _
    have hfin : Rdid w d lv room true L (w.setCell ⟨d, 2, none⟩ (.bool true)) := by
      refine ⟨lv, ⟨?_, h.row.keep K3 (fun k e e2 => h.ne (by rw [e, e2])), h.ne, h.len, h.most⟩, .inl rfl, K3.mono fun k _ e => .inl e⟩
      rw [setCell_block h.cell]; simp
    have HFIN := hidp hfin
    clear h K3 hfin
    go_enter Try.func24, Try.ntmps24
    go_wp2
    go_ret
    exact ⟨rfl, HFIN.out⟩

theorem run_tail (w : World) (b off n cap : Nat) (h1 : 1 ≤ n) (h2 : n ≤ cap) : (Instr.slice 41 (.slice (some ⟨b, off, none⟩) n cap) (some (.int .i64 1)) none none).run Try.prog w = .ok (.slice (some ⟨b, if cap = 1 then off else off + 1, none⟩) (n - 1) (cap - 1)) w := by
  have hs := infos3
  cases hq : Try.prog.info? 3 with
  | none => simp [hq] at hs
  | some i =>
    have hi : i.size = 1 := by simpa [hq] using hs
    have h3 : 1 ≤ cap := by omega
    by_cases hc : cap = 1
    · simp [Instr.slice, run_underlying Try.underlying41, Instr.sliceBounds, Instr.sliceBound, asIntOf, sizeOf, typeInfo, hq, hc]
      intro hh; omega
    · simp [Instr.slice, run_underlying Try.underlying41, Instr.sliceBounds, Instr.sliceBound, asIntOf, sizeOf, typeInfo, hq, hi, hc, Addr.add]
      intro hh; omega

set_option maxRecDepth 100000 in
theorem rrecv {w : World} {d : Nat} {lv : Value} {room : Nat} {closed : Bool} {L : List Int} (h : Rf w d lv room closed L) :
    Calls Try.prog 22 #[.pointer (some ⟨d, 0, none⟩)] w fun e w' => e = .returned (.tuple #[.int .i64 (L.headD 0), .int .i64 (recvCode closed (ints L))]) ∧ Rdid w d lv room closed L.tail w' := by
  have c2 : w.cell? ⟨d, 2, none⟩ = some (.bool closed) := cells_at h.cell 2
  have c0 : w.cell? ⟨d, 0, none⟩ = some lv := cells_at h.cell 0
  have f0 := free_at h.cell 0
  have H := hidp h
  cases L with
  | nil =>
    obtain ⟨oa, cap, rfl⟩ := h.row.shape
    cases closed with
    | true =>
      clear h
      go_enter Try.func22, Try.ntmps22
      go_wp2
      go_ret2
      exact ⟨rfl, rdid_refl H.out⟩
    | false =>
      clear h
      go_enter Try.func22, Try.ntmps22
      go_wp2
      go_ret2
      exact ⟨rfl, rdid_refl H.out⟩
  | cons x L =>
    rcases h.row with ⟨h1, h2⟩ | ⟨b, off, cap, cur, rfl, h2, h3, h4, h5⟩
    · cases h2
    · obtain ⟨n, hn⟩ : ∃ n, n = (x :: L).length := ⟨_, rfl⟩
      have hn1 : n = L.length + 1 := by rw [hn]; rfl
      rw [← hn] at c0 h3
      have e0 : w.cell? ⟨b, off, none⟩ = some (.int .i64 x) := by
        rw [cells_at h2]; have := h5 0 (by simp); simpa using this
      have t1 : ((n : Int) == 0) = false := by simp; omega
      have t2 : (0 : Int) < n := by omega
      have t3 : 0 < n := by omega
      have hsl := run_tail w b off n cap (by omega) h3
      have hn2 : n - 1 = L.length := by omega
      rw [hn2] at hsl
      obtain ⟨off2, ho2⟩ : ∃ o, o = if cap = 1 then off else off + 1 := ⟨_, rfl⟩
      rw [← ho2] at hsl
      have K3 : Keeps (fun k => k = d) w (w.setCell ⟨d, 0, none⟩ (.slice (some ⟨b, off2, none⟩) L.length (cap - 1))) := (Keeps.refl (fun k => k = d) w).setCell (p := ⟨d, 0, none⟩) (.inl rfl) _
      have hrow : SubRow w (.slice (some ⟨b, off2, none⟩) L.length (cap - 1)) L := by
        refine .inr ⟨b, off2, cap - 1, cur, rfl, h2, by omega, by rw [ho2]; split <;> omega, fun i hi => ?_⟩
        have := h5 (i + 1) (by simpa using hi)
        rw [ho2, if_neg (by omega)]
        rw [show off + 1 + i = off + (i + 1) by omega, this]
        simp
      have hne : (Value.slice (some ⟨b, off2, none⟩) L.length (cap - 1)).ownBlock ≠ some d := h.ne
      have hfin : Rdid w d (.slice (some ⟨b, off, none⟩) n cap) room closed L (w.setCell ⟨d, 0, none⟩ (.slice (some ⟨b, off2, none⟩) L.length (cap - 1))) := by
        refine ⟨.slice (some ⟨b, off2, none⟩) L.length (cap - 1), ⟨?_, hrow.keep K3 (fun k e e2 => hne (by rw [e, e2])), hne, by have := h.len; simp at this; omega, h.most⟩, .inl rfl, K3.mono fun k _ e => .inl e⟩
        rw [setCell_block h.cell]; simp
      have HFIN := hidp hfin
      rw [← hn]
      clear h K3 hrow hne hfin h2 h4 h5 ho2 hn H hn1 hn2
      go_enter Try.func22, Try.ntmps22
      go_wp2
      go_ret2
      exact ⟨by simp [recvCode, ints], HFIN.out⟩
end Go.Proofs.Ytmnciedkkceiaaa
