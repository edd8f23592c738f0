/- The walk of WireOrder. -/
import Derived.Test.YtmnciedkkceiaaaOrderW
namespace Go.Proofs.Ytmnciedkkceiaaa
open Go.RowKit Go.Pairs

def lenOf : Value → Nat | .slice _ l _ => l | _ => 0

set_option maxRecDepth 100000 in
set_option maxHeartbeats 4000000 in
theorem order_yes (w : World) (room : Int) (h1 : 1 ≤ room) (h2 : room ≤ 65536) (ao : Option Addr) (len cap : Nat) (Z : Nat → ByteArray) (hV : IsStrs w (.slice ao len cap) len Z) (hlen : len ≤ 200) (take : Int) (wt : (Lit.int .i64 take).wf = true) :
    Calls Try.prog 4 #[.int .i64 room, .slice ao len cap, .int .i64 take] w fun e w' => e = .returned (.bool true) ∧ Below w.heap.size w w' := by
  obtain ⟨i0, hi, hz0, hz1, hz2⟩ := info_parts info9
  obtain ⟨r, rfl⟩ := Int.eq_ofNat_of_zero_le (show 0 ≤ room by omega)
  obtain ⟨ht1, ht2⟩ := bounds_i64 wt
  have HV := hidp hV
  clear hV
  go_enter Try.func4, Try.ntmps4
  go_wp2_with fail
  refine (newok_s w r h1 h2).mono ?_
  rintro e w1 ⟨rfl, C1, K1, hsz⟩
  obtain ⟨c, hc⟩ : ∃ c, w.heap.size = c := ⟨_, rfl⟩
  have S1 : WS w c r false [] [] [] (.slice none 0 0) (.slice none 0 0) w1 :=
    ⟨_, _, _, by rw [← hc]; simpa using C1, by omega, by simp, K1, World.ownsRow_nil _ _ _ _, World.ownsRow_nil _ _ _ _, by intro k h; simp at h, by intro k h; simp at h, by intro k h; simp [Value.ownBlock] at h⟩
  rw [hc]
  have HC := hidp hc
  clear C1 K1 hsz hc
  go_wp2_with fail
  go_loopw [9, 10, 11] (fun sv gv i wr => ∃ (j : Nat) (Q S G : List Value) (a1 a2 : Option Addr) (p1 p2 : Nat), j ≤ len ∧ i = .int .i64 j ∧ sv = .slice a1 S.length p1 ∧ gv = .slice a2 G.length p2 ∧ S.length ≤ j ∧ G.length ≤ j ∧ S = G ++ Q ∧ (∀ v ∈ S, el_s v) ∧ WS w c r false Q S G (.slice a1 S.length p1) (.slice a2 G.length p2) wr) (fun _ _ i _ => len - (intOf i).toNat)
  case atStart => exact ⟨0, [], [], [], none, none, 0, 0, by omega, rfl, rfl, rfl, by simp, by simp, rfl, by simp, S1⟩
  case round =>
    obtain ⟨j, Q, S, G, a1, a2, p1, p2, hj, rfl, rfl, rfl, hS, hG, hSG, hel, SS⟩ := hrel
    clear S1
    by_cases hlt : j < len
    · obtain ⟨bo, off, rfl, x0⟩ : ∃ b off, ao = some ⟨b, off, none⟩ ∧ w.cell? ⟨b, off + j, none⟩ = some (.string (Z j)) := by
        rcases HV.out with ⟨-, rfl⟩ | ⟨bo, off, sp, cap', hv, hl, hm, hs, hel⟩
        · omega
        obtain ⟨rfl, -, rfl⟩ : ao = some ⟨bo, off, sp⟩ ∧ len = len ∧ cap = cap' := by simpa using hv
        obtain rfl := hs (by omega)
        exact ⟨_, _, rfl, hel j hlt⟩
      have x1 := (ws_live SS).keeps.cell x0 (by simp)
      obtain ⟨x, hx⟩ : ∃ x, Z j = x := ⟨_, rfl⟩
      rw [hx] at x0 x1
      clear hx
      have HSG := hidp hSG
      clear hSG
      go_wp2_with fail
      refine (ws_send SS x).mono ?_
      rintro e w2 ⟨rfl, S2⟩
      obtain ⟨hq1, hq2, hq3⟩ := ws_bounds SS
      have x2 := (ws_live S2).keeps.cell x0 (by simp)
      clear x1 SS
      by_cases hfull : Q.length = r
      · have hcode : sendCode false Q.length r = 100 := by simp [sendCode, hfull]
        have hL : sendL false Q r (.string x) = Q := by simp [sendL, hfull]
        rw [hcode]
        rw [hL] at S2
        clear hcode hL x2
        have hroom0 := live_room (ws_live S2)
        rw [show (r : Int) - Q.length = 0 by omega] at hroom0
        go_wp2_with fail
        refine hroom0.mono ?_
        rintro e w' ⟨rfl, n3, rfl⟩
        clear hroom0
        have SS := ws_drewN S2 n3
        obtain ⟨W3, hW3⟩ : ∃ W3, W3 = w2.drewN n3 := ⟨_, rfl⟩
        rw [← hW3] at SS ⊢
        clear S2 hW3 hq1 hq2 hq3
        have hel1 := hel
        clear hel
        -- Len + Room
        obtain ⟨hq1, hq2, hq3⟩ := ws_bounds SS
        obtain ⟨rm, hrm⟩ : ∃ rm : Int, rm = (r : Int) - (Q).length := ⟨_, rfl⟩
        have hrm0 : 0 ≤ rm := by omega
        have hrm1 : rm ≤ 65536 := by omega
        have hroom := live_room (ws_live SS)
        rw [← hrm] at hroom
        have hlen' := live_len (ws_live SS)
        obtain ⟨ql, hql⟩ : ∃ ql : Nat, ql = (Q).length := ⟨_, rfl⟩
        rw [← hql] at hlen'
        have hsum : ((ql : Int) + rm != (r : Int)) = false := by simp; omega
        have hqlb : ql ≤ 65536 := by omega
        have hpos : 0 < (Q).length := by omega
        have HRM := hidp hrm
        have HQL := hidp hql
        clear hrm hql
        by_cases htk : 0 < take ∧ (j : Int) % take = 0
        · obtain ⟨ht, hm⟩ := htk
          have hmb : ((j : Int) % take == 0) = true := by simpa using hm
          have HM := hidp hm
          clear hm
          go_wp2_with (first | (go_at_call 14; refine hlen'.mono ?_; rintro e w' ⟨rfl, rfl⟩) | (go_at_call 13; refine hroom.mono ?_; rintro e w' ⟨rfl, n5, rfl⟩))
          clear hroom hlen' hsum
          have S5 := ws_drewN SS n5
          obtain ⟨W5, hW5⟩ : ∃ W5, W5 = W3.drewN n5 := ⟨_, rfl⟩
          rw [← hW5] at S5 ⊢
          clear SS hW5
          obtain ⟨y, Q2, hQ2⟩ : ∃ y Q2, (Q : List Value) = y :: Q2 := by
            cases hQ : (Q : List Value) with
            | nil => rw [hQ] at hpos; simp at hpos
            | cons y Q2 => exact ⟨y, Q2, rfl⟩
          rw [hQ2] at S5
          have hely : el_s y := by
            refine hel1 y ?_
            rw [HSG.out, hQ2]; simp
          obtain ⟨ys, rfl⟩ := hely
          have HQ2 := hidp hQ2
          clear hQ2 hpos
          have hrec : Calls Try.prog 15 #[.pointer (some ⟨c, 0, none⟩)] W5 fun e w' => e = .returned (.tuple #[.string ys, .int .i64 0]) ∧ WS w c r false Q2 (S) G (.slice a1 (S).length p1) (.slice a2 G.length p2) w' := ws_recv S5
          clear S5
          go_wp2_with fail
          refine hrec.mono ?_
          clear hrec
          rintro e w6 ⟨rfl, S6⟩
          have hown2 := ws_row2 S6
          have hsz6 := (ws_row1 S6).2
          go_wp2_with (at_builtin; refine wpList_append_own_at _ rfl _ _ 32 rfl w.heap.size 9 i0 (.string ByteArray.empty) 1 16 Try.underlying32 hi hz0 hz1 hz2 rfl (by decide) _ _ _ rfl (hown2.alloc _) ⟨w6.heap.size, 0, none⟩ 1 1 [.string ys] rfl rfl (cell_one_new _ _ _) ?c2f ?c3f ?c4f ?c5f ?_)
          case c2f => intro u hu; simp at hu; subst hu; rfl
          case c3f => unfold maxLen; omega
          case c4f => omega
          case c5f => simp; omega
          intro v' w7 hown7 hgr7 hnil7 hloc7
          have S7 := ws_app2 S6 (.string ys) hown7 hgr7 hloc7
          obtain ⟨b2, q2, rfl, -⟩ := slice_of hown7
          have S8 : WS w c r false Q2 (S) (G ++ [Value.string ys]) (.slice a1 (S).length p1) (.slice b2 (G ++ [Value.string ys]).length q2) w7 := by simpa using S7
          clear hown7 hgr7 hnil7 hloc7 S7 S6 hown2
          go_wp2_with fail
          go_roundw
          case rel =>
            refine ⟨j + 1, Q2, S, G ++ [.string ys], a1, b2, p1, q2, by omega, by go_num, by first | rfl | simp, by first | rfl | simp, by omega, by simp; omega, ?_, hel1, S8⟩
            rw [HSG.out, HQ2.out]; simp
          case measure => simp [intOf]; omega
        · have hsp : (take ≤ 0 ∧ decide (0 < take) = false) ∨ (0 < take ∧ decide (0 < take) = true ∧ ((j : Int) % take == 0) = false) := by
            by_cases ht : 0 < take
            · exact .inr ⟨ht, by simpa using ht, by simpa using fun h => htk ⟨ht, h⟩⟩
            · exact .inl ⟨by omega, by simpa using ht⟩
          clear htk
          rcases hsp with ⟨ht, hb⟩ | ⟨ht, hb, hmb⟩
          all_goals
            go_wp2_with (first | (go_at_call 14; refine hlen'.mono ?_; rintro e w' ⟨rfl, rfl⟩) | (go_at_call 13; refine hroom.mono ?_; rintro e w' ⟨rfl, n5, rfl⟩))
            clear hroom hlen' hsum
            have S5 := ws_drewN SS n5
            obtain ⟨W5, hW5⟩ : ∃ W5, W5 = W3.drewN n5 := ⟨_, rfl⟩
            rw [← hW5] at S5 ⊢
            clear SS hW5
            go_roundw
            case rel => exact ⟨j + 1, Q, S, G, a1, a2, p1, p2, by omega, by go_num, by first | rfl | simp, rfl, by omega, by omega, HSG.out, hel1, S5⟩
            case measure => simp [intOf]; omega
      · have hcode : sendCode false Q.length r = 0 := by simp [sendCode, hfull]
        have hL : sendL false Q r (.string x) = Q ++ [.string x] := by simp [sendL, hfull]
        rw [hcode]
        rw [hL] at S2
        clear hcode hL
        obtain ⟨hown1, hsz2⟩ := ws_row1 S2
        go_wp2_with (at_builtin; refine wpList_append_own_at _ rfl _ _ 32 rfl w.heap.size 9 i0 (.string ByteArray.empty) 1 16 Try.underlying32 hi hz0 hz1 hz2 rfl (by decide) _ _ _ rfl (hown1.alloc _) ⟨w2.heap.size, 0, none⟩ 1 1 [.string x] rfl rfl (cell_one_new _ _ _) ?c2s ?c3s ?c4s ?c5s ?_)
        case c2s => intro u hu; simp at hu; subst hu; rfl
        case c3s => unfold maxLen; omega
        case c4s => omega
        case c5s => simp; omega
        intro v' w3 hown3 hgr3 hnil3 hloc3
        have S3 := ws_app1 S2 (.string x) hown3 hgr3 hloc3
        obtain ⟨b1, q1, rfl, -⟩ := slice_of hown3
        have SS : WS w c r false (Q ++ [Value.string x]) (S ++ [Value.string x]) G (.slice b1 (S ++ [Value.string x]).length q1) (.slice a2 G.length p2) w3 := by simpa using S3
        clear hown3 hgr3 hnil3 hloc3 S3 S2 hown1 x2 hq1 hq2 hq3
        have hel1 : ∀ v ∈ S ++ [.string x], el_s v := by
          intro v hv
          rcases List.mem_append.1 hv with hv | hv
          · exact hel v hv
          · simp at hv; subst hv; exact ⟨_, rfl⟩
        have hSG1 : S ++ [.string x] = G ++ (Q ++ [Value.string x]) := by rw [HSG.out]; simp
        have HSG1 := hidp hSG1
        clear hel hSG1
        -- Len + Room
        obtain ⟨hq1, hq2, hq3⟩ := ws_bounds SS
        obtain ⟨rm, hrm⟩ : ∃ rm : Int, rm = (r : Int) - (Q ++ [Value.string x]).length := ⟨_, rfl⟩
        have hrm0 : 0 ≤ rm := by omega
        have hrm1 : rm ≤ 65536 := by omega
        have hroom := live_room (ws_live SS)
        rw [← hrm] at hroom
        have hlen' := live_len (ws_live SS)
        obtain ⟨ql, hql⟩ : ∃ ql : Nat, ql = (Q ++ [Value.string x]).length := ⟨_, rfl⟩
        rw [← hql] at hlen'
        have hsum : ((ql : Int) + rm != (r : Int)) = false := by simp; omega
        have hqlb : ql ≤ 65536 := by omega
        have hpos : 0 < (Q ++ [Value.string x]).length := by simp
        have HRM := hidp hrm
        have HQL := hidp hql
        clear hrm hql
        by_cases htk : 0 < take ∧ (j : Int) % take = 0
        · obtain ⟨ht, hm⟩ := htk
          have hmb : ((j : Int) % take == 0) = true := by simpa using hm
          have HM := hidp hm
          clear hm
          go_wp2_with (first | (go_at_call 14; refine hlen'.mono ?_; rintro e w' ⟨rfl, rfl⟩) | (go_at_call 13; refine hroom.mono ?_; rintro e w' ⟨rfl, n5, rfl⟩))
          clear hroom hlen' hsum
          have S5 := ws_drewN SS n5
          obtain ⟨W5, hW5⟩ : ∃ W5, W5 = w3.drewN n5 := ⟨_, rfl⟩
          rw [← hW5] at S5 ⊢
          clear SS hW5
          obtain ⟨y, Q2, hQ2⟩ : ∃ y Q2, (Q ++ [Value.string x] : List Value) = y :: Q2 := by
            cases hQ : (Q ++ [Value.string x] : List Value) with
            | nil => rw [hQ] at hpos; simp at hpos
            | cons y Q2 => exact ⟨y, Q2, rfl⟩
          rw [hQ2] at S5
          have hely : el_s y := by
            refine hel1 y ?_
            rw [HSG1.out, hQ2]; simp
          obtain ⟨ys, rfl⟩ := hely
          have HQ2 := hidp hQ2
          clear hQ2 hpos
          have hrec : Calls Try.prog 15 #[.pointer (some ⟨c, 0, none⟩)] W5 fun e w' => e = .returned (.tuple #[.string ys, .int .i64 0]) ∧ WS w c r false Q2 (S ++ [Value.string x]) G (.slice b1 (S ++ [Value.string x]).length q1) (.slice a2 G.length p2) w' := ws_recv S5
          clear S5
          go_wp2_with fail
          refine hrec.mono ?_
          clear hrec
          rintro e w6 ⟨rfl, S6⟩
          have hown2 := ws_row2 S6
          have hsz6 := (ws_row1 S6).2
          go_wp2_with (at_builtin; refine wpList_append_own_at _ rfl _ _ 32 rfl w.heap.size 9 i0 (.string ByteArray.empty) 1 16 Try.underlying32 hi hz0 hz1 hz2 rfl (by decide) _ _ _ rfl (hown2.alloc _) ⟨w6.heap.size, 0, none⟩ 1 1 [.string ys] rfl rfl (cell_one_new _ _ _) ?c2s ?c3s ?c4s ?c5s ?_)
          case c2s => intro u hu; simp at hu; subst hu; rfl
          case c3s => unfold maxLen; omega
          case c4s => omega
          case c5s => simp; omega
          intro v' w7 hown7 hgr7 hnil7 hloc7
          have S7 := ws_app2 S6 (.string ys) hown7 hgr7 hloc7
          obtain ⟨b2, q2, rfl, -⟩ := slice_of hown7
          have S8 : WS w c r false Q2 (S ++ [Value.string x]) (G ++ [Value.string ys]) (.slice b1 (S ++ [Value.string x]).length q1) (.slice b2 (G ++ [Value.string ys]).length q2) w7 := by simpa using S7
          clear hown7 hgr7 hnil7 hloc7 S7 S6 hown2
          go_wp2_with fail
          go_roundw
          case rel =>
            refine ⟨j + 1, Q2, S ++ [Value.string x], G ++ [.string ys], b1, b2, q1, q2, by omega, by go_num, by first | rfl | simp, by first | rfl | simp, by simp; omega, by simp; omega, ?_, hel1, S8⟩
            rw [HSG1.out, HQ2.out]; simp
          case measure => simp [intOf]; omega
        · have hsp : (take ≤ 0 ∧ decide (0 < take) = false) ∨ (0 < take ∧ decide (0 < take) = true ∧ ((j : Int) % take == 0) = false) := by
            by_cases ht : 0 < take
            · exact .inr ⟨ht, by simpa using ht, by simpa using fun h => htk ⟨ht, h⟩⟩
            · exact .inl ⟨by omega, by simpa using ht⟩
          clear htk
          rcases hsp with ⟨ht, hb⟩ | ⟨ht, hb, hmb⟩
          all_goals
            go_wp2_with (first | (go_at_call 14; refine hlen'.mono ?_; rintro e w' ⟨rfl, rfl⟩) | (go_at_call 13; refine hroom.mono ?_; rintro e w' ⟨rfl, n5, rfl⟩))
            clear hroom hlen' hsum
            have S5 := ws_drewN SS n5
            obtain ⟨W5, hW5⟩ : ∃ W5, W5 = w3.drewN n5 := ⟨_, rfl⟩
            rw [← hW5] at S5 ⊢
            clear SS hW5
            go_roundw
            case rel => exact ⟨j + 1, Q ++ [Value.string x], S ++ [Value.string x], G, b1, a2, q1, p2, by omega, by go_num, by first | rfl | simp, rfl, by simp; omega, by omega, HSG1.out, hel1, S5⟩
            case measure => simp [intOf]; omega
    · obtain rfl : j = len := by omega
      clear hlt HV
      have HSG := hidp hSG
      clear hSG
      go_wp2_with fail
      refine (ws_close SS).mono ?_
      rintro e w2 ⟨rfl, S2⟩
      clear SS
      go_wp2_with fail
      go_loopw [10] (fun gv wr => ∃ (Q G : List Value) (a2 : Option Addr) (p2 : Nat), gv = .slice a2 G.length p2 ∧ G.length ≤ S.length ∧ S = G ++ Q ∧ WS w c r true Q S G (.slice a1 S.length p1) (.slice a2 G.length p2) wr) (fun gv _ => S.length - lenOf gv)
      case atStart => exact ⟨Q, G, a2, p2, rfl, by rw [HSG.out]; simp, HSG.out, S2⟩
      case round =>
        obtain ⟨Q, G, a2, p2, rfl, hGS, hSG2, SS⟩ := hrel
        clear S2 HSG
        obtain ⟨hq1, hq2, hq3⟩ := ws_bounds SS
        obtain ⟨wo, rfl⟩ : ∃ wo : World, wo = wr := ⟨_, rfl⟩
        cases Q with
        | cons y Q2 =>
          have hely : el_s y := hel y (by rw [hSG2]; simp)
          obtain ⟨ys, rfl⟩ := hely
          have hGl : G.length + 1 ≤ S.length := by rw [hSG2]; simp
          have HSG2 := hidp hSG2
          clear hSG2
          have hln : Calls Try.prog 14 #[.pointer (some ⟨c, 0, none⟩)] wo fun e w' => e = .returned (.int .i64 ((Q2.length : Int) + 1)) ∧ wo = w' := (live_len (ws_live SS)).mono fun e w' h => ⟨by rw [h.1]; simp, h.2⟩
          have hrec : Calls Try.prog 15 #[.pointer (some ⟨c, 0, none⟩)] wo fun e w' => e = .returned (.tuple #[.string ys, .int .i64 0]) ∧ WS w c r true Q2 S G (.slice a1 S.length p1) (.slice a2 G.length p2) w' := ws_recv SS
          simp only [List.length_cons] at hq1
          clear SS
          go_wp2_with (go_at_call 14; refine hln.mono ?_; rintro e w' ⟨rfl, rfl⟩)
          refine hrec.mono ?_
          clear hrec hln
          rintro e w6 ⟨rfl, S6⟩
          have hown2 := ws_row2 S6
          have hsz6 := (ws_row1 S6).2
          go_wp2_with (at_builtin; refine wpList_append_own_at _ rfl _ _ 32 rfl w.heap.size 9 i0 (.string ByteArray.empty) 1 16 Try.underlying32 hi hz0 hz1 hz2 rfl (by decide) _ _ _ rfl (hown2.alloc _) ⟨w6.heap.size, 0, none⟩ 1 1 [.string ys] rfl rfl (cell_one_new _ _ _) ?c2L ?c3L ?c4L ?c5L ?_)
          case c2L => intro u hu; simp at hu; subst hu; rfl
          case c3L => unfold maxLen; omega
          case c4L => omega
          case c5L => simp; omega
          intro v' w7 hown7 hgr7 hnil7 hloc7
          have S7 := ws_app2 S6 (.string ys) hown7 hgr7 hloc7
          obtain ⟨b2, q2, rfl, -⟩ := slice_of hown7
          have S8 : WS w c r true Q2 S (G ++ [Value.string ys]) (.slice a1 S.length p1) (.slice b2 (G ++ [Value.string ys]).length q2) w7 := by simpa using S7
          clear hown7 hgr7 hnil7 hloc7 S7 S6 hown2
          go_wp2_with fail
          go_roundw
          case rel => exact ⟨Q2, G ++ [Value.string ys], b2, q2, by first | rfl | simp, by simp; omega, by rw [HSG2.out]; simp, S8⟩
          case measure => simp [lenOf]; omega
        | nil =>
          have hGS2 : S = G := by rw [hSG2]; simp
          subst hGS2
          clear hSG2 hGS
          have hln : Calls Try.prog 14 #[.pointer (some ⟨c, 0, none⟩)] wo fun e w' => e = .returned (.int .i64 0) ∧ wo = w' := live_len (ws_live SS)
          have hrec : Calls Try.prog 15 #[.pointer (some ⟨c, 0, none⟩)] wo fun e w' => e = .returned (.tuple #[.string ⟨#[]⟩, .int .i64 102]) ∧ WS w c r true [] S S (.slice a1 S.length p1) (.slice a2 S.length p2) w' := ws_recv SS
          clear SS
          go_wp2_with (go_at_call 14; refine hln.mono ?_; rintro e w' ⟨rfl, rfl⟩)
          refine hrec.mono ?_
          clear hrec hln
          rintro e w6 ⟨rfl, S6⟩
          go_wp2_with fail
          go_loopw [19] (fun i wr => ∃ (j : Nat), j ≤ S.length ∧ i = .int .i64 j ∧ WS w c r true [] S S (.slice a1 S.length p1) (.slice a2 S.length p2) wr) (fun i _ => S.length - (intOf i).toNat)
          case atStart => exact ⟨0, by omega, rfl, S6⟩
          case round =>
            obtain ⟨k, hk, rfl, SS⟩ := hrel
            clear S6
            by_cases hlk : k < S.length
            · obtain ⟨hr1, hsz1⟩ := ws_row1 SS
              have hr2 := ws_row2 SS
              obtain ⟨s, hs⟩ : ∃ s, S[k]? = some (.string s) := by
                obtain ⟨s, hs⟩ := hel S[k] (List.getElem_mem hlk)
                exact ⟨s, by rw [List.getElem?_eq_getElem hlk, hs]⟩
              obtain ⟨g1, rfl, -⟩ : ∃ g, a1 = some ⟨g, 0, none⟩ ∧ w.heap.size ≤ g := by
                obtain ⟨ao, cap, hv, h⟩ := slice_of hr1
                have := h (by omega)
                simp at hv; obtain ⟨rfl, -⟩ := hv; exact this
              obtain ⟨g2, rfl, -⟩ : ∃ g, a2 = some ⟨g, 0, none⟩ ∧ w.heap.size ≤ g := by
                obtain ⟨ao, cap, hv, h⟩ := slice_of hr2
                have := h (by omega)
                simp at hv; obtain ⟨rfl, -⟩ := hv; exact this
              have x1 : wr.cell? ⟨g1, k, none⟩ = some (.string s) := (hr1.cellAt k (by omega)).trans hs
              have x2 : wr.cell? ⟨g2, k, none⟩ = some (.string s) := (hr2.cellAt k (by omega)).trans hs
              clear hr1 hr2 hs
              go_wp2_with fail
              go_quiet (fail)
              have S9 := ws_drewN SS nq
              clear SS x1 x2
              go_wp2_with fail
              go_roundw
              case rel => exact ⟨k + 1, by omega, by go_num, S9⟩
              case measure => simp [intOf]; omega
            · have hcl : Calls Try.prog 12 #[.pointer (some ⟨c, 0, none⟩), .string ⟨#[120]⟩] wr fun e w' => e = .returned (.int .i64 102) ∧ WS w c r true [] S S (.slice a1 S.length p1) (.slice a2 S.length p2) w' := ws_send SS ⟨#[120]⟩
              clear SS
              go_wp2_with fail
              refine hcl.mono ?_
              clear hcl
              rintro e w8 ⟨rfl, S8⟩
              have HK := hidp (ws_live S8).keeps
              clear S8
              go_wp2_with (go_at_call 10; refine (awake_any _).mono ?_; rintro e w9 ⟨rfl, K9⟩)
              go_ret
              exact ⟨rfl, below_of (HK.out.trans K9)⟩
end Go.Proofs.Ytmnciedkkceiaaa
