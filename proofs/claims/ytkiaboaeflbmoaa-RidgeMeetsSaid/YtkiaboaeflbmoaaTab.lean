/- The methods of the ridge tables, at each instance, over a map's block as a list of pairs. -/
import Derived.Test.YtkiaboaeflbmoaaRows
import Derived.Test.YtkiaboaeflbmoaaMaps
import Derived.WalkKit
import Derived.WalkSpells
namespace Go.Proofs.Ytkiaboaeflbmoaa
open Go.RowKit Go.Pairs

/-- block a is a Table whose map is block b. -/
structure Tab (ok : Value → Prop) (w : World) (a b : Nat) (m : Nat) (L : List (Value × Value)) : Prop where
  c0 : w.cell? ⟨a, 0, none⟩ = some (.map (some b))
  c1 : w.cell? ⟨a, 1, none⟩ = some (.int .i64 m)
  f1 : w.frozen? ⟨a, 1, none⟩ = false
  has : Has w b L
  keys : OkKeys ok L

theorem Tab.keep {ok : Value → Prop} {w w' : World} {a b m : Nat} {L : List (Value × Value)} (h : Tab ok w a b m L) {S : Nat → Prop} (hk : Keeps S w w') (ha : ¬ S a) (hb : ¬ S b) : Tab ok w' a b m L :=
  ⟨hk.cell h.c0 ha, hk.cell h.c1 ha, (hk.frozen (lt_of_cell h.c1) ha).trans h.f1, hk.has h.has hb, h.keys⟩

/-- what New leaves. -/
def Made (ok : Value → Prop) (w : World) (e : Ending) (w' : World) : Prop :=
  ∃ a b, e = .returned (.pointer (some ⟨a, 0, none⟩)) ∧ Tab ok w' a b 0 [] ∧ w.heap.size ≤ a ∧ w.heap.size ≤ b ∧ Keeps (fun _ => False) w w'

/-- what Meet leaves. -/
def Met (ok : Value → Prop) (z : Value) (a b m : Nat) (L : List (Value × Value)) (k v : Value) (w : World) (e : Ending) (w' : World) : Prop :=
  match pLook veq k L with
  | some x => e = .returned (.tuple #[x, .bool true]) ∧ Tab ok w' a b (m + 1) (pStrike veq k L) ∧ Keeps (fun i => i = a ∨ i = b) w w'
  | none => e = .returned (.tuple #[z, .bool false]) ∧ Tab ok w' a b m (L ++ [(k, v)]) ∧ Keeps (fun i => i = a ∨ i = b) w w'

theorem keys_strike {ok : Value → Prop} {L : List (Value × Value)} (h : OkKeys ok L) (k : Value) : OkKeys ok (pStrike veq k L) := fun p hp => h p (List.mem_of_mem_eraseP hp)
theorem keys_snoc {ok : Value → Prop} {L : List (Value × Value)} (h : OkKeys ok L) {k v : Value} (hk : ok k) : OkKeys ok (L ++ [(k, v)]) := fun p hp => by
  rcases List.mem_append.1 hp with hp | hp
  · exact h p hp
  · simp at hp; subst hp; exact hk

def ok_f (v : Value) : Prop := ∃ n, v = Value.float .f64 n
theorem key_f : KeyEq Try.prog 28 ok_f veq := veq_float Try.underlying28
theorem zero_f (w : World) : (zeroValue 3).run Try.prog w = .ok (.int .i64 0) w := by kernel_rfl

theorem new_f (w : World) : Calls Try.prog 10 #[] w (Made ok_f w) := by
  have hmm := @run_makeMap Try.prog
  go_enter Try.func10, Try.ntmps10
  go_wp2
  go_ret
  refine ⟨w.heap.size + 1, w.heap.size, rfl, ⟨?_, ?_, ?_, ?_, ?_⟩, by omega, by omega, ((Keeps.refl _ w).alloc _).alloc _⟩
  · simp
  · simp
  · simp
  · exact (has_made w).same (Below.heap_alloc _ _ _ (by simp))
  · intro p hp; simp at hp

theorem meet_f {a b m : Nat} {L : List (Value × Value)} {w : World} (T : Tab ok_f w a b m L) (hm : m < 100000) {k : Value} (hk : ok_f k) (v : Value) :
    Calls Try.prog 11 #[.pointer (some ⟨a, 0, none⟩), k, v] w (Met ok_f (.int .i64 0) a b m L k v w) := by
  obtain ⟨c0, c1, f1, hH, hL⟩ := T
  have hab := ne_of_cell c0 hH
  have hl := run_lookup key_f hH hL hk Try.underlying54 (zero_f w) true
  cases hx : pLook veq k L with
  | some x =>
    unfold Met; simp only [hx]
    rw [hx] at hl
    simp only [if_true, Option.getD_some, Option.isSome_some] at hl
    obtain ⟨w1, hdel, hH1, hg1⟩ := run_delete key_f hH hL hk Try.underlying54 #[54, 28] rfl 0
    have hk1 : Keeps (fun i => i = b) w w1 := (Keeps.refl _ w).grown hg1 (fun k e => .inl (by simpa using e.symm))
    have d0 : w1.cell? ⟨a, 0, none⟩ = some (.map (some b)) := hk1.cell c0 (by simpa using hab)
    have d1 : w1.cell? ⟨a, 1, none⟩ = some (.int .i64 m) := hk1.cell c1 (by simpa using hab)
    have g1 : w1.frozen? ⟨a, 1, none⟩ = false := (hk1.frozen (lt_of_cell c1) (by simpa using hab)).trans f1
    have hfin : Tab ok_f (w1.setCell ⟨a, 1, none⟩ (.int .i64 (m + 1))) a b (m + 1) (pStrike veq k L) :=
      ⟨by rw [World.cell?_setCell_other _ _ _ _ (by simp)]; exact d0, by rw [World.cell?_setCell_same' _ _ _ (by rw [d1]; rfl)]; rfl, by rw [World.frozen?_setCell]; exact g1,
        hH1.same (Below.heap_setCell _ _ _ _ (fun e => hab e.symm)), keys_strike hL k⟩
    have hkk : Keeps (fun i => i = a ∨ i = b) w (w1.setCell ⟨a, 1, none⟩ (.int .i64 (m + 1))) := (hk1.mono (fun i _ hi => .inr hi)).setCell (.inl (.inl rfl)) _
    clear hk1 hH hH1 hg1 hx hk hL hab
    have Hf := hidp hfin
    have Hk := hidp hkk
    clear hfin hkk
    go_enter Try.func11, Try.ntmps11
    go_wp2
    go_ret2
    exact ⟨rfl, Hf.out, Hk.out⟩
  | none =>
    unfold Met; simp only [hx]
    rw [hx] at hl
    simp only [if_true, Option.getD_none, Option.isSome_none] at hl
    obtain ⟨w1, hup, hH1, hg1⟩ := run_update_new key_f hH hL hk Try.underlying54 v hx
    have hk1 : Keeps (fun i => i = b) w w1 := (Keeps.refl _ w).grown hg1 (fun k e => .inl (by simpa using e.symm))
    have hfin : Tab ok_f w1 a b m (L ++ [(k, v)]) :=
      ⟨hk1.cell c0 (by simpa using hab), hk1.cell c1 (by simpa using hab), (hk1.frozen (lt_of_cell c1) (by simpa using hab)).trans f1, hH1, keys_snoc hL hk⟩
    have hkk : Keeps (fun i => i = a ∨ i = b) w w1 := hk1.mono (fun i _ hi => .inr hi)
    clear hk1 hH hH1 hg1 hx hk hL hab
    have Hf := hidp hfin
    have Hk := hidp hkk
    clear hfin hkk
    go_enter Try.func11, Try.ntmps11
    go_wp2
    go_ret2
    exact ⟨rfl, Hf.out, Hk.out⟩

theorem len_f {a b m : Nat} {L : List (Value × Value)} {w : World} (T : Tab ok_f w a b m L) :
    Calls Try.prog 12 #[.pointer (some ⟨a, 0, none⟩)] w fun e w' => e = .returned (.int .i64 L.length) ∧ w = w' := by
  obtain ⟨c0, c1, f1, hH, hL⟩ := T
  have hl := run_len (P := Try.prog) hH Try.underlying54 #[54] rfl 3
  simp only [goInt] at hl
  go_enter Try.func12, Try.ntmps12
  go_wp2
  go_ret
  exact ⟨rfl, rfl⟩

def ok_i (v : Value) : Prop := ∃ n, v = Value.int .i64 n
theorem key_i : KeyEq Try.prog 3 ok_i veq := veq_int Try.underlying3
theorem zero_i (w : World) : (zeroValue 3).run Try.prog w = .ok (.int .i64 0) w := by kernel_rfl

theorem new_i (w : World) : Calls Try.prog 13 #[] w (Made ok_i w) := by
  have hmm := @run_makeMap Try.prog
  go_enter Try.func13, Try.ntmps13
  go_wp2
  go_ret
  refine ⟨w.heap.size + 1, w.heap.size, rfl, ⟨?_, ?_, ?_, ?_, ?_⟩, by omega, by omega, ((Keeps.refl _ w).alloc _).alloc _⟩
  · simp
  · simp
  · simp
  · exact (has_made w).same (Below.heap_alloc _ _ _ (by simp))
  · intro p hp; simp at hp

theorem meet_i {a b m : Nat} {L : List (Value × Value)} {w : World} (T : Tab ok_i w a b m L) (hm : m < 100000) {k : Value} (hk : ok_i k) (v : Value) :
    Calls Try.prog 16 #[.pointer (some ⟨a, 0, none⟩), k, v] w (Met ok_i (.int .i64 0) a b m L k v w) := by
  obtain ⟨c0, c1, f1, hH, hL⟩ := T
  have hab := ne_of_cell c0 hH
  have hl := run_lookup key_i hH hL hk Try.underlying57 (zero_i w) true
  cases hx : pLook veq k L with
  | some x =>
    unfold Met; simp only [hx]
    rw [hx] at hl
    simp only [if_true, Option.getD_some, Option.isSome_some] at hl
    obtain ⟨w1, hdel, hH1, hg1⟩ := run_delete key_i hH hL hk Try.underlying57 #[57, 3] rfl 0
    have hk1 : Keeps (fun i => i = b) w w1 := (Keeps.refl _ w).grown hg1 (fun k e => .inl (by simpa using e.symm))
    have d0 : w1.cell? ⟨a, 0, none⟩ = some (.map (some b)) := hk1.cell c0 (by simpa using hab)
    have d1 : w1.cell? ⟨a, 1, none⟩ = some (.int .i64 m) := hk1.cell c1 (by simpa using hab)
    have g1 : w1.frozen? ⟨a, 1, none⟩ = false := (hk1.frozen (lt_of_cell c1) (by simpa using hab)).trans f1
    have hfin : Tab ok_i (w1.setCell ⟨a, 1, none⟩ (.int .i64 (m + 1))) a b (m + 1) (pStrike veq k L) :=
      ⟨by rw [World.cell?_setCell_other _ _ _ _ (by simp)]; exact d0, by rw [World.cell?_setCell_same' _ _ _ (by rw [d1]; rfl)]; rfl, by rw [World.frozen?_setCell]; exact g1,
        hH1.same (Below.heap_setCell _ _ _ _ (fun e => hab e.symm)), keys_strike hL k⟩
    have hkk : Keeps (fun i => i = a ∨ i = b) w (w1.setCell ⟨a, 1, none⟩ (.int .i64 (m + 1))) := (hk1.mono (fun i _ hi => .inr hi)).setCell (.inl (.inl rfl)) _
    clear hk1 hH hH1 hg1 hx hk hL hab
    have Hf := hidp hfin
    have Hk := hidp hkk
    clear hfin hkk
    go_enter Try.func16, Try.ntmps16
    go_wp2
    go_ret2
    exact ⟨rfl, Hf.out, Hk.out⟩
  | none =>
    unfold Met; simp only [hx]
    rw [hx] at hl
    simp only [if_true, Option.getD_none, Option.isSome_none] at hl
    obtain ⟨w1, hup, hH1, hg1⟩ := run_update_new key_i hH hL hk Try.underlying57 v hx
    have hk1 : Keeps (fun i => i = b) w w1 := (Keeps.refl _ w).grown hg1 (fun k e => .inl (by simpa using e.symm))
    have hfin : Tab ok_i w1 a b m (L ++ [(k, v)]) :=
      ⟨hk1.cell c0 (by simpa using hab), hk1.cell c1 (by simpa using hab), (hk1.frozen (lt_of_cell c1) (by simpa using hab)).trans f1, hH1, keys_snoc hL hk⟩
    have hkk : Keeps (fun i => i = a ∨ i = b) w w1 := hk1.mono (fun i _ hi => .inr hi)
    clear hk1 hH hH1 hg1 hx hk hL hab
    have Hf := hidp hfin
    have Hk := hidp hkk
    clear hfin hkk
    go_enter Try.func16, Try.ntmps16
    go_wp2
    go_ret2
    exact ⟨rfl, Hf.out, Hk.out⟩

theorem len_i {a b m : Nat} {L : List (Value × Value)} {w : World} (T : Tab ok_i w a b m L) :
    Calls Try.prog 18 #[.pointer (some ⟨a, 0, none⟩)] w fun e w' => e = .returned (.int .i64 L.length) ∧ w = w' := by
  obtain ⟨c0, c1, f1, hH, hL⟩ := T
  have hl := run_len (P := Try.prog) hH Try.underlying57 #[57] rfl 3
  simp only [goInt] at hl
  go_enter Try.func18, Try.ntmps18
  go_wp2
  go_ret
  exact ⟨rfl, rfl⟩

theorem met_i {a b m : Nat} {L : List (Value × Value)} {w : World} (T : Tab ok_i w a b m L) :
    Calls Try.prog 19 #[.pointer (some ⟨a, 0, none⟩)] w fun e w' => e = .returned (.int .i64 m) ∧ w = w' := by
  obtain ⟨c0, c1, f1, hH, hL⟩ := T
  go_enter Try.func19, Try.ntmps19
  go_wp2
  go_ret
  exact ⟨rfl, rfl⟩

theorem parked_i {a b m : Nat} {L : List (Value × Value)} {w : World} (T : Tab ok_i w a b m L) {k : Value} (hk : ok_i k) :
    Calls Try.prog 14 #[.pointer (some ⟨a, 0, none⟩), k] w fun e w' => e = .returned (.tuple #[(pLook veq k L).getD (.int .i64 0), .bool (pLook veq k L).isSome]) ∧ w = w' := by
  obtain ⟨c0, c1, f1, hH, hL⟩ := T
  have hl := run_lookup key_i hH hL hk Try.underlying57 (zero_i w) true
  simp only [if_true] at hl
  generalize (pLook veq k L).getD (.int .i64 0) = x at *
  generalize (pLook veq k L).isSome = y at *
  go_enter Try.func14, Try.ntmps14
  go_wp2
  go_ret2
  exact ⟨rfl, rfl⟩

def ok_e (v : Value) : Prop := ∃ x y, v = Value.agg #[.int .i64 x, .int .i64 y]
theorem key_e : KeyEq Try.prog 23 ok_e veq := veq_pair (et := 3) Try.underlying23 Try.underlying3 (fun _ => by kernel_rfl) (fun _ _ _ => ⟨by kernel_rfl, by kernel_rfl⟩)
theorem zero_e (w : World) : (zeroValue 9).run Try.prog w = .ok (.string ByteArray.empty) w := by kernel_rfl

theorem new_e (w : World) : Calls Try.prog 20 #[] w (Made ok_e w) := by
  have hmm := @run_makeMap Try.prog
  go_enter Try.func20, Try.ntmps20
  go_wp2
  go_ret
  refine ⟨w.heap.size + 1, w.heap.size, rfl, ⟨?_, ?_, ?_, ?_, ?_⟩, by omega, by omega, ((Keeps.refl _ w).alloc _).alloc _⟩
  · simp
  · simp
  · simp
  · exact (has_made w).same (Below.heap_alloc _ _ _ (by simp))
  · intro p hp; simp at hp

theorem len_e {a b m : Nat} {L : List (Value × Value)} {w : World} (T : Tab ok_e w a b m L) :
    Calls Try.prog 24 #[.pointer (some ⟨a, 0, none⟩)] w fun e w' => e = .returned (.int .i64 L.length) ∧ w = w' := by
  obtain ⟨c0, c1, f1, hH, hL⟩ := T
  have hl := run_len (P := Try.prog) hH Try.underlying62 #[62] rfl 3
  simp only [goInt] at hl
  go_enter Try.func24, Try.ntmps24
  go_wp2
  go_ret
  exact ⟨rfl, rfl⟩

theorem met_e {a b m : Nat} {L : List (Value × Value)} {w : World} (T : Tab ok_e w a b m L) :
    Calls Try.prog 23 #[.pointer (some ⟨a, 0, none⟩)] w fun e w' => e = .returned (.int .i64 m) ∧ w = w' := by
  obtain ⟨c0, c1, f1, hH, hL⟩ := T
  go_enter Try.func23, Try.ntmps23
  go_wp2
  go_ret
  exact ⟨rfl, rfl⟩

def ok_s (v : Value) : Prop := ∃ s, v = Value.string s
theorem key_s : KeyEq Try.prog 9 ok_s veq := veq_string Try.underlying9
theorem zero_s (w : World) : (zeroValue 3).run Try.prog w = .ok (.int .i64 0) w := by kernel_rfl

theorem new_s (w : World) : Calls Try.prog 25 #[] w (Made ok_s w) := by
  have hmm := @run_makeMap Try.prog
  go_enter Try.func25, Try.ntmps25
  go_wp2
  go_ret
  refine ⟨w.heap.size + 1, w.heap.size, rfl, ⟨?_, ?_, ?_, ?_, ?_⟩, by omega, by omega, ((Keeps.refl _ w).alloc _).alloc _⟩
  · simp
  · simp
  · simp
  · exact (has_made w).same (Below.heap_alloc _ _ _ (by simp))
  · intro p hp; simp at hp

theorem meet_s {a b m : Nat} {L : List (Value × Value)} {w : World} (T : Tab ok_s w a b m L) (hm : m < 100000) {k : Value} (hk : ok_s k) (v : Value) :
    Calls Try.prog 26 #[.pointer (some ⟨a, 0, none⟩), k, v] w (Met ok_s (.int .i64 0) a b m L k v w) := by
  obtain ⟨c0, c1, f1, hH, hL⟩ := T
  have hab := ne_of_cell c0 hH
  have hl := run_lookup key_s hH hL hk Try.underlying65 (zero_s w) true
  cases hx : pLook veq k L with
  | some x =>
    unfold Met; simp only [hx]
    rw [hx] at hl
    simp only [if_true, Option.getD_some, Option.isSome_some] at hl
    obtain ⟨w1, hdel, hH1, hg1⟩ := run_delete key_s hH hL hk Try.underlying65 #[65, 9] rfl 0
    have hk1 : Keeps (fun i => i = b) w w1 := (Keeps.refl _ w).grown hg1 (fun k e => .inl (by simpa using e.symm))
    have d0 : w1.cell? ⟨a, 0, none⟩ = some (.map (some b)) := hk1.cell c0 (by simpa using hab)
    have d1 : w1.cell? ⟨a, 1, none⟩ = some (.int .i64 m) := hk1.cell c1 (by simpa using hab)
    have g1 : w1.frozen? ⟨a, 1, none⟩ = false := (hk1.frozen (lt_of_cell c1) (by simpa using hab)).trans f1
    have hfin : Tab ok_s (w1.setCell ⟨a, 1, none⟩ (.int .i64 (m + 1))) a b (m + 1) (pStrike veq k L) :=
      ⟨by rw [World.cell?_setCell_other _ _ _ _ (by simp)]; exact d0, by rw [World.cell?_setCell_same' _ _ _ (by rw [d1]; rfl)]; rfl, by rw [World.frozen?_setCell]; exact g1,
        hH1.same (Below.heap_setCell _ _ _ _ (fun e => hab e.symm)), keys_strike hL k⟩
    have hkk : Keeps (fun i => i = a ∨ i = b) w (w1.setCell ⟨a, 1, none⟩ (.int .i64 (m + 1))) := (hk1.mono (fun i _ hi => .inr hi)).setCell (.inl (.inl rfl)) _
    clear hk1 hH hH1 hg1 hx hk hL hab
    have Hf := hidp hfin
    have Hk := hidp hkk
    clear hfin hkk
    go_enter Try.func26, Try.ntmps26
    go_wp2
    go_ret2
    exact ⟨rfl, Hf.out, Hk.out⟩
  | none =>
    unfold Met; simp only [hx]
    rw [hx] at hl
    simp only [if_true, Option.getD_none, Option.isSome_none] at hl
    obtain ⟨w1, hup, hH1, hg1⟩ := run_update_new key_s hH hL hk Try.underlying65 v hx
    have hk1 : Keeps (fun i => i = b) w w1 := (Keeps.refl _ w).grown hg1 (fun k e => .inl (by simpa using e.symm))
    have hfin : Tab ok_s w1 a b m (L ++ [(k, v)]) :=
      ⟨hk1.cell c0 (by simpa using hab), hk1.cell c1 (by simpa using hab), (hk1.frozen (lt_of_cell c1) (by simpa using hab)).trans f1, hH1, keys_snoc hL hk⟩
    have hkk : Keeps (fun i => i = a ∨ i = b) w w1 := hk1.mono (fun i _ hi => .inr hi)
    clear hk1 hH hH1 hg1 hx hk hL hab
    have Hf := hidp hfin
    have Hk := hidp hkk
    clear hfin hkk
    go_enter Try.func26, Try.ntmps26
    go_wp2
    go_ret2
    exact ⟨rfl, Hf.out, Hk.out⟩

theorem len_s {a b m : Nat} {L : List (Value × Value)} {w : World} (T : Tab ok_s w a b m L) :
    Calls Try.prog 27 #[.pointer (some ⟨a, 0, none⟩)] w fun e w' => e = .returned (.int .i64 L.length) ∧ w = w' := by
  obtain ⟨c0, c1, f1, hH, hL⟩ := T
  have hl := run_len (P := Try.prog) hH Try.underlying65 #[65] rfl 3
  simp only [goInt] at hl
  go_enter Try.func27, Try.ntmps27
  go_wp2
  go_ret
  exact ⟨rfl, rfl⟩

theorem met_s {a b m : Nat} {L : List (Value × Value)} {w : World} (T : Tab ok_s w a b m L) :
    Calls Try.prog 28 #[.pointer (some ⟨a, 0, none⟩)] w fun e w' => e = .returned (.int .i64 m) ∧ w = w' := by
  obtain ⟨c0, c1, f1, hH, hL⟩ := T
  go_enter Try.func28, Try.ntmps28
  go_wp2
  go_ret
  exact ⟨rfl, rfl⟩
end Go.Proofs.Ytkiaboaeflbmoaa
