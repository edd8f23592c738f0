/- Laws on a map's block as a list of pairs (own work; imports nothing of the dump). -/
import Derived.OwnWalk
import Derived.Below
import Derived.MapKept
namespace Go.Pairs
open Go.RowKit

/-- block b of w is a map that holds these pairs, oldest first. -/
def Has (w : World) (b : Nat) (L : List (Value × Value)) : Prop :=
  ∃ es clock, w.heap[b]? = some (.map es clock) ∧ es.toList.map (fun e => (e.key, e.val)) = L

/-- equality of keys of one type, on a set of keys. -/
structure KeyEq (P : Program) (kt : TypeId) (ok : Value → Prop) (eqv : Value → Value → Bool) : Prop where
  under : ∃ d, P.underlying kt = some d ∧ ∀ k k' b, ok k → ok k' → Instr.sameNow d k k' = some b → b = eqv k k'
  eq : ∀ w k k', ok k → ok k' → (Op.equal kt k k').run P w = .ok (eqv k k') w
  check : ∀ w e k, ok k → (Instr.checkKey e 10000 kt k).run P w = .ok () w

/-- where a key is found. -/
def pAt (eqv : Value → Value → Bool) (k : Value) : List (Value × Value) → Nat → Option (Nat × Value)
  | [], _ => none
  | p :: l, i => if eqv k p.1 then some (i, p.2) else pAt eqv k l (i + 1)

def pLook (eqv : Value → Value → Bool) (k : Value) (L : List (Value × Value)) : Option Value := (pAt eqv k L 0).map (·.2)

variable {P : Program} {kt : TypeId} {ok : Value → Prop} {eqv : Value → Value → Bool}

theorem run_findAsking (K : KeyEq P kt ok eqv) (w : World) (k : Value) (hk : ok k) : ∀ (es : List MapEntry) (i : Nat), (∀ e ∈ es, ok e.key) →
    (Instr.findAsking kt k es i).run P w = .ok (pAt eqv k (es.map fun e => (e.key, e.val)) i) w
  | [], i, _ => by simp [Instr.findAsking, pAt]
  | e :: es, i, h => by
    have h1 := K.eq w k e.key hk (h e (by simp))
    have h2 := run_findAsking K w k hk es (i + 1) (fun e he => h e (by simp [he]))
    simp only [Instr.findAsking, Sem.run_bind, h1, Result.andThen_ok, Sem.run_ite, Sem.run_pure, h2, List.map_cons, pAt]
    split <;> rfl

theorem findNow_at {d : TypeDesc} {k : Value} (hk : ok k) (hd : ∀ k k' b, ok k → ok k' → Instr.sameNow d k k' = some b → b = eqv k k') : ∀ (es : List MapEntry) (i : Nat) (r : Option (Nat × Value)), (∀ e ∈ es, ok e.key) →
    Instr.findNow d k es i = some r → r = pAt eqv k (es.map fun e => (e.key, e.val)) i
  | [], i, r, _, hr => by simp [Instr.findNow] at hr; simp [pAt, ← hr]
  | e :: es, i, r, h, hr => by
    have hs := hd k e.key
    simp only [Instr.findNow] at hr
    split at hr
    · rename_i hh
      have := hs true hk (h e (by simp)) hh
      simp at hr
      simp [pAt, ← this, ← hr]
    · rename_i hh
      have := hs false hk (h e (by simp)) hh
      simp [pAt, ← this]
      exact findNow_at hk hd es (i + 1) r (fun e he => h e (by simp [he])) hr
    · simp at hr

theorem run_findKey (K : KeyEq P kt ok eqv) (w : World) (k : Value) (hk : ok k) (es : List MapEntry) (h : ∀ e ∈ es, ok e.key) :
    (Instr.findKey kt k es).run P w = .ok (pAt eqv k (es.map fun e => (e.key, e.val)) 0) w := by
  obtain ⟨d, hu, hd⟩ := K.under
  simp only [Instr.findKey, Sem.run_bind, run_underlying hu, Result.andThen_ok]
  split
  · rename_i r hr
    rw [findNow_at hk hd es 0 r h hr]; rfl
  · exact run_findAsking K w k hk es 0 h

def OkKeys (ok : Value → Prop) (L : List (Value × Value)) : Prop := ∀ p ∈ L, ok p.1

/-- 'm[k]' -/
theorem run_lookup (K : KeyEq P kt ok eqv) {w : World} {b : Nat} {L : List (Value × Value)} (h : Has w b L) (hL : OkKeys ok L) {k : Value} (hk : ok k) {t e : TypeId} (ht : P.underlying t = some (.map kt e)) {z : Value}
    (hz : (zeroValue e).run P w = .ok z w) (c : Bool) : (Instr.lookup t (.map (some b)) k c).run P w = .ok (if c then .tuple #[((pLook eqv k L).getD z), .bool (pLook eqv k L).isSome] else (pLook eqv k L).getD z) w := by
  obtain ⟨es, clock, hb, rfl⟩ := h
  have hes : ∀ e ∈ es.toList, ok e.key := fun e he => hL (e.key, e.val) (List.mem_map.2 ⟨e, he, rfl⟩)
  have hg := MapKept.run_getObj_map (P := P) hb
  have hf := run_findKey K w k hk es.toList hes
  unfold pLook
  simp only [Instr.lookup, Sem.run_bind, run_underlying ht, Result.andThen_ok, hg, Sem.run_pure, K.check w _ k hk, hf]
  cases hat : pAt eqv k (es.toList.map fun e => (e.key, e.val)) 0 with
  | none => simp [hz]
  | some p => obtain ⟨i, v⟩ := p; simp

/-- 'm[k] = v', k not there -/
theorem run_update_new (K : KeyEq P kt ok eqv) {w : World} {b : Nat} {L : List (Value × Value)} (h : Has w b L) (hL : OkKeys ok L) {k : Value} (hk : ok k) {t e : TypeId} (ht : P.underlying t = some (.map kt e)) (v : Value)
    (hn : pLook eqv k L = none) : ∃ w', (Instr.mapUpdate t (.map (some b)) k v).run P w = .ok () w' ∧ Has w' b (L ++ [(k, v)]) ∧ w.grownBy w' (some b) := by
  obtain ⟨es, clock, hb, rfl⟩ := h
  have hes : ∀ e ∈ es.toList, ok e.key := fun e he => hL (e.key, e.val) (List.mem_map.2 ⟨e, he, rfl⟩)
  have hg := MapKept.run_getObj_map (P := P) hb
  have hf := run_findKey K w k hk es.toList hes
  have hn' : pAt eqv k (es.toList.map fun e => (e.key, e.val)) 0 = none := by simpa [pLook] using hn
  have hlt := (Array.getElem?_eq_some_iff.1 hb).1
  refine ⟨{ w with heap := w.heap.setIfInBounds b (.map (es.push { key := k, val := v, born := clock }) (clock + 1)) }, ?_, ⟨es.push { key := k, val := v, born := clock }, clock + 1, ?_, ?_⟩, ⟨rfl, rfl, rfl, by simp, ?_⟩⟩
  · simp only [Instr.mapUpdate, Sem.run_bind, run_underlying ht, Result.andThen_ok, hg, K.check w _ k hk, hf, hn', MapKept.run_setObj_map _ hb]
  · simp [hlt]
  · simp
  · intro i _ hi
    simp [Array.getElem?_setIfInBounds]
    intro e; exact absurd (by rw [e]) hi

/-- the first pair under the key struck. -/
def pStrike (eqv : Value → Value → Bool) (k : Value) (L : List (Value × Value)) : List (Value × Value) := L.eraseP (fun p => eqv k p.1)

theorem pAt_strike (k : Value) : ∀ (L : List (Value × Value)) (i j : Nat) (v : Value), pAt eqv k L i = some (j, v) → i ≤ j ∧ L.eraseIdx (j - i) = pStrike eqv k L
  | [], _, _, _, h => by simp [pAt] at h
  | p :: L, i, j, v, h => by
    simp only [pAt] at h
    split at h
    · rename_i hp
      simp at h
      obtain ⟨rfl, rfl⟩ := h
      simp [pStrike, hp]
    · rename_i hp
      obtain ⟨h1, h2⟩ := pAt_strike k L (i + 1) j v h
      refine ⟨by omega, ?_⟩
      have : j - i = (j - (i + 1)) + 1 := by omega
      rw [this, List.eraseIdx_cons_succ, h2]
      simp [pStrike, hp]

theorem map_eraseIdx' {α β : Type} (f : α → β) : ∀ (l : List α) (i : Nat), (l.eraseIdx i).map f = (l.map f).eraseIdx i
  | [], _ => by simp
  | a :: l, 0 => by simp
  | a :: l, i + 1 => by simp [map_eraseIdx' f l i]

theorem eraseIdx_toList (es : Array MapEntry) (i : Nat) : (es.eraseIdxIfInBounds i).toList = es.toList.eraseIdx i := by
  rcases Nat.lt_or_ge i es.size with h | h
  · simp [Array.eraseIdxIfInBounds, h, Array.toList_eraseIdx]
  · simp [Array.eraseIdxIfInBounds, Nat.not_lt.2 h, List.eraseIdx_of_length_le (show es.toList.length ≤ i by simpa using h)]

/-- 'delete(m, k)' -/
theorem run_delete (K : KeyEq P kt ok eqv) {w : World} {b : Nat} {L : List (Value × Value)} (h : Has w b L) (hL : OkKeys ok L) {k : Value} (hk : ok k) {t e : TypeId} (ht : P.underlying t = some (.map kt e)) (ts : Array TypeId) (hts : ts[0]? = some t) (ty : TypeId) :
    ∃ w', (Builtin.delete_ ts ty #[.map (some b), k]).run P w = .ok (.tuple #[]) w' ∧ Has w' b (pStrike eqv k L) ∧ w.grownBy w' (some b) := by
  obtain ⟨es, clock, hb, rfl⟩ := h
  have hes : ∀ e ∈ es.toList, ok e.key := fun e he => hL (e.key, e.val) (List.mem_map.2 ⟨e, he, rfl⟩)
  have hg := MapKept.run_getObj_map (P := P) hb
  have hf := run_findKey K w k hk es.toList hes
  have hlt := (Array.getElem?_eq_some_iff.1 hb).1
  cases hat : pAt eqv k (es.toList.map fun e => (e.key, e.val)) 0 with
  | none =>
    have hs : pStrike eqv k (es.toList.map fun e => (e.key, e.val)) = es.toList.map fun e => (e.key, e.val) := by
      have : ∀ (L : List (Value × Value)) i, pAt eqv k L i = none → pStrike eqv k L = L := by
        intro L
        induction L with
        | nil => simp [pStrike]
        | cons p L ih =>
          intro i hi
          simp only [pAt] at hi
          split at hi
          · simp at hi
          · rename_i hp
            have := ih _ hi
            simp only [pStrike] at this ⊢
            simp [hp, this]
      exact this _ _ hat
    refine ⟨{ w with heap := w.heap.setIfInBounds b (.map es clock) }, ?_, ⟨es, clock, ?_, hs.symm⟩, ⟨rfl, rfl, rfl, by simp, ?_⟩⟩
    · simp [Builtin.delete_, hts, run_underlying ht, hg, K.check w _ k hk, hf, hat, MapKept.run_setObj_map _ hb]
    · simp [hlt]
    · intro i _ hi
      simp [Array.getElem?_setIfInBounds]
      intro e; exact absurd (by rw [e]) hi
  | some p =>
    obtain ⟨j, v⟩ := p
    obtain ⟨_, h2⟩ := pAt_strike k _ 0 j v hat
    refine ⟨{ w with heap := w.heap.setIfInBounds b (.map (es.eraseIdxIfInBounds j) clock) }, ?_, ⟨es.eraseIdxIfInBounds j, clock, ?_, ?_⟩, ⟨rfl, rfl, rfl, by simp, ?_⟩⟩
    · simp [Builtin.delete_, hts, run_underlying ht, hg, K.check w _ k hk, hf, hat, MapKept.run_setObj_map _ hb]
    · simp [hlt]
    · rw [eraseIdx_toList, ← h2]
      simpa using map_eraseIdx' _ _ _
    · intro i _ hi
      simp [Array.getElem?_setIfInBounds]
      intro e; exact absurd (by rw [e]) hi

theorem has_made (w : World) : Has (w.alloc (.map #[] 0)) w.heap.size [] :=
  ⟨#[], 0, (MapKept.heap_alloc w _).1, rfl⟩

theorem Has.lt {w : World} {b : Nat} {L : List (Value × Value)} (h : Has w b L) : b < w.heap.size := by
  obtain ⟨es, clock, hb, _⟩ := h
  exact (Array.getElem?_eq_some_iff.1 hb).1

theorem Has.same {w w' : World} {b : Nat} {L : List (Value × Value)} (h : Has w b L) (hb : w'.heap[b]? = w.heap[b]?) : Has w' b L := by
  obtain ⟨es, clock, hh, hL⟩ := h
  exact ⟨es, clock, hb.trans hh, hL⟩

/-- 'len(m)' -/
theorem run_len {w : World} {b : Nat} {L : List (Value × Value)} (h : Has w b L) {t kt e : TypeId} (ht : P.underlying t = some (.map kt e)) (ts : Array TypeId) (hts : ts[0]? = some t) (ty : TypeId) :
    (Builtin.len_ ts ty #[.map (some b)]).run P w = .ok (goInt L.length) w := by
  obtain ⟨es, clock, hb, rfl⟩ := h
  have hg := MapKept.run_getObj_map (P := P) hb
  simp [Builtin.len_, hts, run_underlying ht, hg]

/-- the keys' equality at strings, ints, floats and pairs of ints. -/
def veq : Value → Value → Bool
  | .string a, .string b => a == b
  | .int _ a, .int _ b => a == b
  | .float k a, .float _ b => Op.floatEq k a b
  | .agg a, .agg b => match a.toList, b.toList with
    | [.int _ x, .int _ y], [.int _ u, .int _ v] => x == u && y == v
    | _, _ => false
  | _, _ => false

theorem veq_string {kt : TypeId} (h : P.underlying kt = some .string) : KeyEq P kt (fun v => ∃ s, v = .string s) veq where
  under := ⟨_, h, by rintro _ _ b ⟨s, rfl⟩ ⟨t, rfl⟩ e; simpa [Instr.sameNow, veq] using e.symm⟩
  eq := by
    rintro w _ _ ⟨s, rfl⟩ ⟨t, rfl⟩
    have : ∀ n, (Op.equalIn (n + 1) kt (.string s) (.string t)).run P w = .ok (veq (.string s) (.string t)) w := fun n => by simp [Op.equalIn, run_underlying h, veq]
    exact this 9999
  check := by
    rintro w e _ ⟨s, rfl⟩
    have : ∀ n, (Instr.checkKey e (n + 1) kt (.string s)).run P w = .ok () w := fun n => by simp [Instr.checkKey, run_underlying h]
    exact this 9999

theorem veq_int {kt : TypeId} {q : IntKind} (h : P.underlying kt = some (.int q)) : KeyEq P kt (fun v => ∃ n, v = .int q n) veq where
  under := ⟨_, h, by rintro _ _ b ⟨s, rfl⟩ ⟨t, rfl⟩ e; simpa [Instr.sameNow, veq] using e.symm⟩
  eq := by
    rintro w _ _ ⟨s, rfl⟩ ⟨t, rfl⟩
    have : ∀ n, (Op.equalIn (n + 1) kt (.int q s) (.int q t)).run P w = .ok (veq (.int q s) (.int q t)) w := fun n => by simp [Op.equalIn, run_underlying h, veq]
    exact this 9999
  check := by
    rintro w e _ ⟨s, rfl⟩
    have : ∀ n, (Instr.checkKey e (n + 1) kt (.int q s)).run P w = .ok () w := fun n => by simp [Instr.checkKey, run_underlying h]
    exact this 9999

theorem veq_float {kt : TypeId} {q : FloatKind} (h : P.underlying kt = some (.float q)) : KeyEq P kt (fun v => ∃ n, v = .float q n) veq where
  under := ⟨_, h, by rintro _ _ b ⟨s, rfl⟩ ⟨t, rfl⟩ e; simp [Instr.sameNow] at e⟩
  eq := by
    rintro w _ _ ⟨s, rfl⟩ ⟨t, rfl⟩
    have : ∀ n, (Op.equalIn (n + 1) kt (.float q s) (.float q t)).run P w = .ok (veq (.float q s) (.float q t)) w := fun n => by simp [Op.equalIn, run_underlying h, veq]
    exact this 9999
  check := by
    rintro w e _ ⟨s, rfl⟩
    have : ∀ n, (Instr.checkKey e (n + 1) kt (.float q s)).run P w = .ok () w := fun n => by simp [Instr.checkKey, run_underlying h]
    exact this 9999

theorem veq_pair {kt et : TypeId} (h : P.underlying kt = some (.array 2 et)) (he : P.underlying et = some (.int .i64)) (hs : ∀ w, (sizeOf et).run P w = .ok 1 w)
    (hp : ∀ w (x y : Int), (part et #[.int .i64 x, .int .i64 y] 0).run P w = .ok (.int .i64 x) w ∧ (part et #[.int .i64 x, .int .i64 y] 1).run P w = .ok (.int .i64 y) w) :
    KeyEq P kt (fun v => ∃ x y, v = .agg #[.int .i64 x, .int .i64 y]) veq where
  under := ⟨_, h, by rintro _ _ b ⟨s, t, rfl⟩ ⟨u, v, rfl⟩ e; simp [Instr.sameNow] at e⟩
  eq := by
    rintro w _ _ ⟨x, y, rfl⟩ ⟨u, v, rfl⟩
    have e1 : ∀ n (a b : Int) w, (Op.equalIn (n + 1) et (.int .i64 a) (.int .i64 b)).run P w = .ok (a == b) w := fun n a b w => by simp [Op.equalIn, run_underlying he]
    have e2 : ∀ n, (Op.equalIn (n + 1 + 1) kt (.agg #[.int .i64 x, .int .i64 y]) (.agg #[.int .i64 u, .int .i64 v])).run P w = .ok (veq (.agg #[.int .i64 x, .int .i64 y]) (.agg #[.int .i64 u, .int .i64 v])) w := fun n => by
      rw [Op.equalIn]
      simp [run_underlying h, hs, List.range', hp, e1, veq]
      by_cases h1 : x = u <;> by_cases h2 : y = v <;> simp [h1, h2]
    exact e2 9998
  check := by
    rintro w e _ ⟨x, y, rfl⟩
    have e1 : ∀ n (a : Int) w, (Instr.checkKey e (n + 1) et (.int .i64 a)).run P w = .ok () w := fun n a w => by simp [Instr.checkKey, run_underlying he]
    have e2 : ∀ n, (Instr.checkKey e (n + 1 + 1) kt (.agg #[.int .i64 x, .int .i64 y])).run P w = .ok () w := fun n => by
      rw [Instr.checkKey]
      simp [run_underlying h, hs, List.range', hp, e1]
    exact e2 9998


theorem hidp {p : Prop} (h : p) : Hid p := h

/-- outside the blocks S (and new ones) w' is as w was. -/
structure Keeps (S : Nat → Prop) (w w' : World) : Prop where
  os : w'.os = w.os
  tape : w'.tape = w.tape
  output : w'.output = w.output
  size : w.heap.size ≤ w'.heap.size
  block : ∀ k, k < w.heap.size → ¬ S k → w'.heap[k]? = w.heap[k]?

theorem Keeps.refl (S : Nat → Prop) (w : World) : Keeps S w w := ⟨rfl, rfl, rfl, Nat.le_refl _, fun _ _ _ => rfl⟩

theorem Keeps.trans {S : Nat → Prop} {a b c : World} (h : Keeps S a b) (k : Keeps S b c) : Keeps S a c :=
  ⟨k.os.trans h.os, k.tape.trans h.tape, k.output.trans h.output, Nat.le_trans h.size k.size, fun i hi hs => (k.block i (Nat.lt_of_lt_of_le hi h.size) hs).trans (h.block i hi hs)⟩

theorem Keeps.mono {S S' : Nat → Prop} {w w' : World} (h : Keeps S w w') (hs : ∀ k, k < w.heap.size → S k → S' k) : Keeps S' w w' :=
  ⟨h.os, h.tape, h.output, h.size, fun k hk hn => h.block k hk (fun hx => hn (hs k hk hx))⟩

/-- what was new in between may have been written. -/
theorem Keeps.then_ {S S' : Nat → Prop} {a b c : World} (h : Keeps S a b) (k : Keeps S' b c) (hs : ∀ i, i < a.heap.size → S' i → S i) : Keeps S a c :=
  ⟨k.os.trans h.os, k.tape.trans h.tape, k.output.trans h.output, Nat.le_trans h.size k.size, fun i hi hn => (k.block i (Nat.lt_of_lt_of_le hi h.size) (fun hx => hn (hs i hi hx))).trans (h.block i hi hn)⟩

theorem Keeps.alloc {S : Nat → Prop} {a w : World} (h : Keeps S a w) (o : Obj) : Keeps S a (w.alloc o) :=
  h.trans ⟨rfl, rfl, rfl, by simp, fun k hk _ => Below.heap_alloc _ _ _ hk⟩

theorem Keeps.drew {S : Nat → Prop} {a w : World} (h : Keeps S a w) : Keeps S a w.drew := ⟨h.os, h.tape, h.output, h.size, h.block⟩

theorem Keeps.setCell {S : Nat → Prop} {a w : World} (h : Keeps S a w) {p : Addr} (hp : S p.block ∨ a.heap.size ≤ p.block) (u : Value) : Keeps S a (w.setCell p u) :=
  h.then_ (S' := fun k => k = p.block) ⟨rfl, rfl, rfl, by simp [World.setCell], fun k _ hn => Below.heap_setCell _ _ _ _ hn⟩ (fun i hi e => by
    rcases hp with hp | hp
    · exact e ▸ hp
    · omega)

theorem Keeps.grown {S : Nat → Prop} {a w w' : World} {row : Option Nat} (h : Keeps S a w) (hg : w.grownBy w' row) (hr : ∀ k, row = some k → S k ∨ a.heap.size ≤ k) : Keeps S a w' :=
  h.then_ (S' := fun k => some k = row) ⟨hg.os, hg.tape, hg.output, hg.size, fun k hk hn => hg.block k hk hn⟩ (fun i hi e => by
    rcases hr i e.symm with h | h
    · exact h
    · omega)

theorem Keeps.below {S : Nat → Prop} {w w' : World} (h : Keeps S w w') {B : Nat} (hB : B ≤ w.heap.size) (hs : ∀ k, k < B → ¬ S k) : Below B w w' :=
  ⟨h.os, h.tape, h.output, h.size, fun k hk => h.block k (Nat.lt_of_lt_of_le hk hB) (hs k hk)⟩

theorem Keeps.cell {S : Nat → Prop} {w w' : World} (h : Keeps S w w') {p : Addr} {v : Value} (hc : w.cell? p = some v) (hs : ¬ S p.block) : w'.cell? p = some v := by
  have hlt : p.block < w.heap.size := by
    rcases Nat.lt_or_ge p.block w.heap.size with h | h
    · exact h
    · simp [World.cell?, Array.getElem?_eq_none h] at hc
  rw [World.cell?_of_block (w := w) (h.block _ hlt hs)]; exact hc

theorem Keeps.frozen {S : Nat → Prop} {w w' : World} (h : Keeps S w w') {p : Addr} (hlt : p.block < w.heap.size) (hs : ¬ S p.block) : w'.frozen? p = w.frozen? p :=
  World.frozen?_of_block (w := w) (h.block _ hlt hs)

theorem Keeps.has {S : Nat → Prop} {w w' : World} (h : Keeps S w w') {b : Nat} {L : List (Value × Value)} (hH : Has w b L) (hs : ¬ S b) : Has w' b L := hH.same (h.block _ hH.lt hs)

theorem lt_of_cell {w : World} {p : Addr} {v : Value} (hc : w.cell? p = some v) : p.block < w.heap.size := by
  rcases Nat.lt_or_ge p.block w.heap.size with h | h
  · exact h
  · simp [World.cell?, Array.getElem?_eq_none h] at hc

/-- a cell's block is no map. -/
theorem ne_of_cell {w : World} {a b o : Nat} {v : Value} {L : List (Value × Value)} (hc : w.cell? ⟨a, o, none⟩ = some v) (hH : Has w b L) : a ≠ b := by
  rintro rfl
  obtain ⟨es, clock, hb, _⟩ := hH
  simp [World.cell?, hb] at hc

end Go.Pairs
