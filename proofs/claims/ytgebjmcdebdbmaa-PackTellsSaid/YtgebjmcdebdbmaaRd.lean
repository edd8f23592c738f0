/- Read, the program's. -/
import Derived.Test.YtgebjmcdebdbmaaPoints
import Derived.Test.YtgebjmcdebdbmaaPlain
namespace Go.Proofs.Ytgebjmcdebdbmaa
open Go.RowKit Go.Pairs

def RdP (w : World) (bs : List Nat) (e : Ending) (w' : World) : Prop :=
  (∃ oa oc, e = .returned (.tuple #[.slice oa (okL bs).length oc, .int .i64 (errN bs)]) ∧ PT w' oa (okL bs) ∧ (okL bs).length ≤ 512) ∧ Keeps (fun _ => False) w w'
theorem rd_bad {w w' : World} {bs : List Nat} (hb : okN bs = none) (hk : Keeps (fun _ => False) w w') : RdP w bs (.returned (.tuple #[.slice none 0 0, .int .i64 190])) w' := by
  have h0 : okL bs = [] := by unfold okL; rw [hb]; rfl
  refine ⟨⟨none, 0, by rw [h0, errN, hb]; rfl, ?_, by rw [h0]; simp⟩, hk⟩
  rw [h0]
  exact ⟨fun i hi => by simp at hi, by simp⟩

set_option maxRecDepth 100000 in
set_option maxHeartbeats 4000000 in
theorem rd_walk (w : World) (so : Option Addr) (cap : Nat) (bs : List Nat) (h : BS w so bs) (hcap : bs.length ≤ cap) :
    Calls Try.prog 19 #[.slice so bs.length cap] w fun e w' => RdP w bs e w' := by
  have HB := hidp h
  have C1 := hidp (read_walk w so cap bs h hcap)
  clear h
  go_enter Try.func19, Try.ntmps19
  go_wp2_with fail
  refine C1.out.mono ?_
  rintro e W1 ⟨⟨oa, oc, rfl, hpt, hle, -⟩, K1⟩
  clear C1
  cases hb : bodyN bs with
  | none =>
    have HE := hidp (show okN bs = none by unfold okN; rw [hb])
    have hs : (Option.none : Option (List P3)).isSome = false := rfl
    have HK := hidp K1
    clear hb hpt hle K1
    go_wp2
    go_ret2
    exact rd_bad HE.out HK.out
  | some l =>
    have hbl : bodyL bs = l := by unfold bodyL; rw [hb]; rfl
    rw [hbl] at hpt hle ⊢
    have HBB := hidp hb
    have HP := hidp (And.intro hpt K1)
    have CW := hidp (write_walk W1 oa oc l hpt)
    have hs : (some l).isSome = true := rfl
    clear hb hbl hpt K1
    go_wp2_with fail
    refine CW.out.mono ?_
    rintro e W2 ⟨⟨wa, wc, rfl, hbs, hwl, -⟩, K2⟩
    by_cases hc : chk l = 0
    · have CE := hidp (equal_walk W2 wa so wc cap (writeV l) bs hbs ((HB.out.keep HP.out.2).keep K2))
      rw [hc]
      have HC := hidp hc
      have HK := hidp (And.intro (HP.out.1.keep K2) (HP.out.2.trans K2))
      clear hc hbs K2 CW hwl
      by_cases heq : writeV l = bs
      · have HQ := hidp heq
        obtain ⟨wl, hwl⟩ : ∃ x, x = writeV l := ⟨_, rfl⟩
        rw [← hwl] at CE ⊢
        have e1 : decide (wl = bs) = true := by rw [hwl, heq]; simp
        rw [e1] at CE
        clear e1 hwl heq
        go_wp2_with fail
        refine CE.out.mono ?_
        rintro e W3 ⟨rfl, rfl⟩
        have hok : okN bs = some l := by unfold okN; rw [HBB.out]; exact if_pos ⟨HC.out, HQ.out⟩
        have HO := hidp (show okL bs = l ∧ errN bs = 0 by unfold okL errN; rw [hok]; exact ⟨rfl, rfl⟩)
        clear hok CE
        go_wp2_with fail
        go_ret2
        refine ⟨⟨oa, oc, by rw [HO.out.1, HO.out.2]; rfl, by rw [HO.out.1]; exact HK.out.1, by rw [HO.out.1]; exact hle⟩, HK.out.2⟩
      · have HQ := hidp heq
        obtain ⟨wl, hwl⟩ : ∃ x, x = writeV l := ⟨_, rfl⟩
        rw [← hwl] at CE ⊢
        have e1 : decide (wl = bs) = false := by rw [hwl]; simpa using heq
        rw [e1] at CE
        clear e1 hwl heq
        go_wp2_with fail
        refine CE.out.mono ?_
        rintro e W3 ⟨rfl, rfl⟩
        have HE := hidp (show okN bs = none by unfold okN; rw [HBB.out]; exact if_neg (fun h => HQ.out h.2))
        clear CE
        go_wp2_with fail
        go_ret2
        exact rd_bad HE.out HK.out.2
    · have HE := hidp (show okN bs = none by unfold okN; rw [HBB.out]; exact if_neg (fun h => hc h.1))
      have t1 : (chk l != 0) = true := by simpa using hc
      have HK := hidp (HP.out.2.trans K2)
      clear hc hbs K2 CW hwl
      go_wp2
      go_ret2
      exact rd_bad HE.out HK.out
end Go.Proofs.Ytgebjmcdebdbmaa
