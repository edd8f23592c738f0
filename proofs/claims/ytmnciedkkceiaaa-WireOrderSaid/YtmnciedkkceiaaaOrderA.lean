/- The walk of WireOrder, every input. -/
import Derived.Test.YtmnciedkkceiaaaOrderL
namespace Go.Proofs.Ytmnciedkkceiaaa
open Go.RowKit Go.Pairs

theorem order_no (w : World) (room : Int) (h : room < 1 ∨ 65536 < room) (ao : Option Addr) (len cap : Nat) (take : Int) :
    Calls Try.prog 4 #[.int .i64 room, .slice ao len cap, .int .i64 take] w fun e w' => e = .returned (.bool true) ∧ Below w.heap.size w w' := by
  have HH := hidp h
  clear h
  go_enter Try.func4, Try.ntmps4
  go_wp2_with fail
  refine (newno_s w room HH.out).mono ?_
  rintro e w1 ⟨rfl, rfl⟩
  go_wp2_with (go_at_call 10; refine (awake_any _).mono ?_; rintro e w3 ⟨rfl, K3⟩)
  go_ret
  exact ⟨rfl, below_of K3⟩

theorem order_long (w : World) (room : Int) (h1 : 1 ≤ room) (h2 : room ≤ 65536) (ao : Option Addr) (len cap : Nat) (hlm : len ≤ 9223372036854775807) (hl : 200 < len) (take : Int) :
    Calls Try.prog 4 #[.int .i64 room, .slice ao len cap, .int .i64 take] w fun e w' => e = .returned (.bool true) ∧ Below w.heap.size w w' := by
  go_enter Try.func4, Try.ntmps4
  go_wp2_with fail
  refine (newok_s w room h1 h2).mono ?_
  rintro e w1 ⟨rfl, C1, K1, hsz⟩
  clear C1 hsz
  go_wp2_with (go_at_call 10; refine (awake_any _).mono ?_; rintro e w3 ⟨rfl, K3⟩)
  go_ret
  exact ⟨rfl, below_of (K1.trans K3)⟩

theorem wireOrder_walk (w : World) (room : Int) (_wr : (Lit.int .i64 room).wf = true) (V : Value) (len : Nat) (Z : Nat → ByteArray) (hV : IsStrs w V len Z) (take : Int) (wt : (Lit.int .i64 take).wf = true) :
    Calls Try.prog 4 #[.int .i64 room, V, .int .i64 take] w fun e w' => e = .returned (.bool true) ∧ Below w.heap.size w w' := by
  obtain ⟨ao, cap, rfl, hm⟩ : ∃ ao cap, V = .slice ao len cap ∧ len ≤ maxLen := by
    rcases hV with ⟨rfl, rfl⟩ | ⟨b, off, s, cap, rfl, h1, h2, -⟩
    · exact ⟨none, 0, rfl, by simp⟩
    · exact ⟨_, cap, rfl, by omega⟩
  unfold maxLen at hm
  by_cases h : 1 ≤ room ∧ room ≤ 65536
  · by_cases hl : len ≤ 200
    · exact order_yes w room h.1 h.2 ao len cap Z hV hl take wt
    · exact order_long w room h.1 h.2 ao len cap (by omega) (by omega) take
  · exact order_no w room (by omega) ao len cap take
end Go.Proofs.Ytmnciedkkceiaaa
