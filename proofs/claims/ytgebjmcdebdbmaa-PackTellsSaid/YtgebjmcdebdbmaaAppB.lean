/- append of bytes, whatever their number; reads: the walk. -/
import Derived.Test.YtgebjmcdebdbmaaRr
import Derived.Test.YtgebjmcdebdbmaaRd
import Derived.Deep.Upon
namespace Go.Proofs.Ytgebjmcdebdbmaa
open Go.RowKit Go.Pairs

theorem own_shape {w : World} {B : Nat} {v : Value} {n : Nat} {xs : List Value} (h : w.ownsRow B 5 1 v n xs) : ∃ oa c, v = .slice oa n c ∧ n ≤ c := by
  rcases h.2 with ⟨h1, h2⟩ | ⟨g', cp, cur, h1, -, -, h2, -⟩
  · exact ⟨_, _, by rw [h1, h2], by omega⟩
  · exact ⟨_, _, h1, h2⟩

theorem run_app (w : World) (ty : TypeId) (base : Nat) (v : Value) (bs us : List Nat) (hown : w.ownsRow base 5 1 v bs.length (byts bs)) (oa : Option Addr) (c : Nat) (hus : BS w oa us) (hb : bs.length + us.length ≤ 1000000000) (hbase : base ≤ w.heap.size) :
    ∃ v' w', (Builtin.append_ #[23, 23] ty #[v, .slice oa us.length c]).run Try.prog w = .ok v' w' ∧ w'.ownsRow base 5 1 v' (bs.length + us.length) (byts bs ++ byts us) ∧ w.grownBy w' v.ownBlock ∧ (v'.ownBlock = v.ownBlock ∨ v'.ownBlock = some w.heap.size) := by
  obtain ⟨i0, hi, hz0, hz1, hz2⟩ := info_parts info5
  cases us with
  | nil =>
    obtain ⟨ao, cp, rfl, hle⟩ := own_shape hown
    have hsrc : Src Try.prog i0.size 23 (.slice oa 0 c) 0 [] w := by
      cases oa with
      | none => exact Src.ofNil w Try.underlying23 c
      | some a => exact Src.ofSlice w Try.underlying23 a 0 c [] (by simp) (by simp) (by simp)
    exact ⟨_, _, run_append_nothing w 23 23 ty 5 i0 Try.underlying23 hi ao bs.length cp hle _ hsrc, by simpa [byts] using hown, ⟨rfl, rfl, rfl, Nat.le_refl _, fun _ _ _ => rfl⟩, .inl rfl⟩
  | cons u us =>
    obtain ⟨b, off, rfl, -⟩ := hus.1 0 (by simp)
    obtain ⟨v', w', h1, h2, h3, -, h5⟩ := run_append_own_at (P := Try.prog) w base 23 ty 5 i0 (.int .u8 0) 1 1 Try.underlying23 hi hz0 hz1 hz2 rfl (by decide) v bs.length (byts bs) hown ⟨b, off, none⟩ (u :: us).length c (byts (u :: us)) (by rw [byts_len]; omega) (bs_news hus) (byts_one _) (by unfold maxLen; omega) (by omega) hbase
    exact ⟨v', w', h1, h2, h3, h5⟩

theorem wpList_app {ops : Array Oper} {rest : List Oper} {o : Oper} {a : Act} {w : World} {Q : Exit → Act → World → Prop} (hgd : o.guard = none) (s x : Operand)
    (ho : o.op = .call { callee := .builtin .append, args := #[s, x], argTypes := #[23, 23] })
    (base : Nat) (v : Value) (bs us : List Nat) (hs : a.eval s = v) (hown : w.ownsRow base 5 1 v bs.length (byts bs)) (oa : Option Addr) (c : Nat) (hx : a.eval x = .slice oa us.length c) (hus : BS w oa us) (hb : bs.length + us.length ≤ 1000000000) (hbase : base ≤ w.heap.size)
    (h : ∀ v' w', w'.ownsRow base 5 1 v' (bs.length + us.length) (byts bs ++ byts us) → w.grownBy w' v.ownBlock → (v'.ownBlock = v.ownBlock ∨ v'.ownBlock = some w.heap.size) → wpList Try.prog ops Q rest (a.put o.dst v') w') :
    wpList Try.prog ops Q (o :: rest) a w := by
  refine wpList_plain hgd fun K hK => ?_
  obtain ⟨v', w', hr, h2, h3, h5⟩ := run_app w o.type base v bs us hown oa c hus hb hbase
  unfold Oper.wp execOp
  simp only [ho, resolve, invoke, builtin, Sem.run_bind, Sem.run_pure, Result.andThen_ok, List.map_toArray, List.map_cons, List.map_nil, hs, hx, hr]
  exact hK _ _ (h v' w' h2 h3 h5)

theorem wpList_app_w {ops : Array Oper} {rest : List Oper} {o : Oper} {a : Act} {w : World} {Q : Exit → Act → World → Prop} (hwd : Region.wanted o (yielded ops a.tmps) = true) (s x : Operand)
    (ho : o.op = .call { callee := .builtin .append, args := #[s, x], argTypes := #[23, 23] })
    (base : Nat) (v : Value) (bs us : List Nat) (hs : a.eval s = v) (hown : w.ownsRow base 5 1 v bs.length (byts bs)) (oa : Option Addr) (c : Nat) (hx : a.eval x = .slice oa us.length c) (hus : BS w oa us) (hb : bs.length + us.length ≤ 1000000000) (hbase : base ≤ w.heap.size)
    (h : ∀ v' w', w'.ownsRow base 5 1 v' (bs.length + us.length) (byts bs ++ byts us) → w.grownBy w' v.ownBlock → (v'.ownBlock = v.ownBlock ∨ v'.ownBlock = some w.heap.size) → wpList Try.prog ops Q rest (a.put o.dst v') w') :
    wpList Try.prog ops Q (o :: rest) a w := by
  refine wpList_step fun K hK => ?_
  rw [if_pos hwd]
  obtain ⟨v', w', hr, h2, h3, h5⟩ := run_app w o.type base v bs us hown oa c hus hb hbase
  unfold Oper.wp execOp
  simp only [ho, resolve, invoke, builtin, Sem.run_bind, Sem.run_pure, Result.andThen_ok, List.map_toArray, List.map_cons, List.map_nil, hs, hx, hr]
  exact hK _ _ (h v' w' h2 h3 h5)

set_option maxRecDepth 100000 in
set_option maxHeartbeats 4000000 in
theorem reads_walk (w : World) (so : Option Addr) (cap : Nat) (bs : List Nat) (h : BS w so bs) (hcap : bs.length ≤ cap) :
    Calls Try.prog 18 #[.slice so bs.length cap] w fun e w' => e = .returned (.bool true) ∧ Keeps (fun _ => False) w w' := by
  have HB := hidp h
  have C1 := hidp (rd_walk w so cap bs h hcap)
  clear h
  go_enter Try.func18, Try.ntmps18
  go_wp2_with fail
  refine C1.out.mono ?_
  rintro e W1 ⟨⟨oa, oc, rfl, hpt, -⟩, K1⟩
  have C2 := hidp (refread_walk W1 so cap bs (HB.out.keep K1) hcap)
  have H1 := hidp (And.intro hpt K1)
  clear C1 hpt K1
  go_wp2_with fail
  refine C2.out.mono ?_
  rintro e W2 ⟨⟨ra, rc, rfl, hpt2, -⟩, K2⟩
  have C3 := hidp (points_walk W2 oa ra oc rc (okL bs) (okL bs) (H1.out.1.keep K2) hpt2)
  have HK := hidp (H1.out.2.trans K2)
  obtain ⟨n, hn⟩ : ∃ n, n = (okL bs).length := ⟨_, rfl⟩
  have he : errN bs = if (okN bs).isSome then 0 else 190 := rfl
  obtain ⟨q, hq⟩ : ∃ q, q = (okN bs).isSome := ⟨_, rfl⟩
  obtain ⟨er, her⟩ : ∃ er, er = errN bs := ⟨_, rfl⟩
  rw [← hn] at C3 ⊢
  rw [← hq] at he ⊢
  rw [← her] at he ⊢
  subst he
  clear hpt2 K2 C2 H1 hn hq her
  cases q with
  | true =>
    simp only [if_true]
    go_wp2_with fail
    refine C3.out.mono ?_
    rintro e W3 ⟨rfl, K3⟩
    have e1 : decide True = true := rfl
    try rw [e1]
    have HF := hidp (HK.out.trans K3)
    clear e1 C3 K3
    go_wp2_with fail
    go_ret
    exact ⟨rfl, HF.out⟩
  | false =>
    simp only [Bool.false_eq_true, if_false]
    go_wp2_with fail
    refine C3.out.mono ?_
    rintro e W3 ⟨rfl, K3⟩
    have e1 : decide True = true := rfl
    try rw [e1]
    have HF := hidp (HK.out.trans K3)
    clear e1 C3 K3
    go_wp2_with fail
    go_ret
    exact ⟨rfl, HF.out⟩
end Go.Proofs.Ytgebjmcdebdbmaa
