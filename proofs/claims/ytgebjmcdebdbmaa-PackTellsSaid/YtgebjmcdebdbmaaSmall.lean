/- same, bytes.Equal; Check, the program's and the document's; part, zig, four. -/
import Derived.Test.YtgebjmcdebdbmaaTake2
import Derived.Laws.BytesString
import Derived.Laws.Cells
import Derived.Laws.Strings
namespace Go.Proofs.Ytgebjmcdebdbmaa
open Go.RowKit Go.Pairs

/-- bytes as a text. -/
def toS (bs : List Nat) : ByteArray := (bs.map fun (n : Nat) => (n : Int)).foldl (fun r n => r.push (UInt8.ofNat n.toNat)) ByteArray.empty

theorem toS_data (l : List Nat) : ∀ s : ByteArray, ((l.map fun (n : Nat) => (n : Int)).foldl (fun r n => r.push (UInt8.ofNat n.toNat)) s).data.toList = s.data.toList ++ l.map UInt8.ofNat := by
  induction l with
  | nil => intro s; simp
  | cons a l ih =>
    intro s
    simp only [List.map_cons, List.foldl_cons]
    rw [ih]
    simp [ByteArray.push]

theorem toS_list (a : List Nat) : (toS a).toList = a.map UInt8.ofNat := by
  rw [ByteArray.toList_eq]
  have := toS_data a ByteArray.empty
  simpa [toS] using this

theorem toS_inj {a b : List Nat} (ha : ∀ x ∈ a, x < 256) (hb : ∀ x ∈ b, x < 256) : ((toS a).toList = (toS b).toList) ↔ a = b := by
  refine ⟨fun h => ?_, fun h => by rw [h]⟩
  rw [toS_list, toS_list] at h
  have h3 := h.symm
  have key : ∀ l : List Nat, (∀ x ∈ l, x < 256) → (l.map UInt8.ofNat).map UInt8.toNat = l := by
    intro l hl
    rw [List.map_map]
    conv => rhs; rw [← List.map_id l]
    apply List.map_congr_left
    intro x hx
    have := hl x hx
    simp [UInt8.toNat_ofNat', Nat.mod_eq_of_lt this]
  rw [← key a ha, ← key b hb, h3]

theorem run_toS {w : World} {so : Option Addr} {bs : List Nat} (h : BS w so bs) (cap : Nat) : (convert 23 9 (.slice so bs.length cap)).run Try.prog w = .ok (.string (toS bs)) w := by
  rw [run_convert_bytes_string w 23 9 5 so bs.length cap Try.underlying23 Try.underlying5 Try.underlying9]
  cases so with
  | none =>
    have : bs = [] := by
      cases bs with
      | nil => rfl
      | cons a l => obtain ⟨b, off, h1, -⟩ := h.1 0 (by simp); cases h1
    subst this
    simp [Conv.bytesToString, toS, Sem.run_pure]
  | some a =>
    refine run_bytesToString w a bs.length cap (bs.map fun (n : Nat) => (n : Int)) ?_
    have := run_loadCells_list (P := Try.prog) (w := w) a (byts bs) (fun j v hj => ?_)
    · rw [byts_len] at this
      rw [this]
      simp [byts, Function.comp_def]
    · have hj2 : j < bs.length := by rw [← byts_len bs]; exact (List.getElem?_eq_some_iff.1 hj).1
      obtain ⟨b, off, h1, h2⟩ := h.1 j hj2
      obtain rfl : a = ⟨b, off, none⟩ := by simpa using h1
      have hv : v = .int .u8 bs[j] := by
        have : (byts bs)[j]? = some (.int .u8 bs[j]) := by simp [byts, hj2]
        rw [this] at hj; simpa using hj.symm
      rw [hv, ← h2]
      congr 1
      unfold Addr.add
      split <;> simp_all

theorem same_walk (w : World) (sa sb : Option Addr) (ca cb : Nat) (a b : List Nat) (ha : BS w sa a) (hb : BS w sb b) :
    Calls Try.prog 11 #[.slice sa a.length ca, .slice sb b.length cb] w fun e w' => e = .returned (.bool (decide (a = b))) ∧ w' = w := by
  have h1 := run_toS ha ca
  have h2 := run_toS hb cb
  have HI := hidp (toS_inj ha.2.1 hb.2.1)
  clear ha hb
  obtain ⟨x, hx⟩ : ∃ x, x = toS a := ⟨_, rfl⟩
  obtain ⟨y, hy⟩ : ∃ y, y = toS b := ⟨_, rfl⟩
  rw [← hx] at h1
  rw [← hy] at h2
  rw [← hx, ← hy] at HI
  clear hx hy
  go_enter Try.func11, Try.ntmps11
  go_wp2
  go_ret
  refine ⟨?_, rfl⟩
  have e : (x.toList == y.toList) = decide (a = b) := by
    by_cases h : a = b
    · rw [decide_eq_true h, beq_iff_eq]; exact HI.out.2 h
    · rw [decide_eq_false h, beq_eq_false_iff_ne]; exact fun h' => h (HI.out.1 h')
  rw [← e]
  rfl

theorem equal_walk (w : World) (sa sb : Option Addr) (ca cb : Nat) (a b : List Nat) (ha : BS w sa a) (hb : BS w sb b) :
    Calls Try.prog 28 #[.slice sa a.length ca, .slice sb b.length cb] w fun e w' => e = .returned (.bool (decide (a = b))) ∧ w' = w := by
  have h1 := run_toS ha ca
  have h2 := run_toS hb cb
  have HI := hidp (toS_inj ha.2.1 hb.2.1)
  clear ha hb
  obtain ⟨x, hx⟩ : ∃ x, x = toS a := ⟨_, rfl⟩
  obtain ⟨y, hy⟩ : ∃ y, y = toS b := ⟨_, rfl⟩
  rw [← hx] at h1
  rw [← hy] at h2
  rw [← hx, ← hy] at HI
  clear hx hy
  go_enter Try.func28, Try.ntmps28
  go_wp2
  go_ret
  refine ⟨?_, rfl⟩
  have e : (x.toList == y.toList) = decide (a = b) := by
    by_cases h : a = b
    · rw [decide_eq_true h, beq_iff_eq]; exact HI.out.2 h
    · rw [decide_eq_false h, beq_eq_false_iff_ne]; exact fun h' => h (HI.out.1 h')
  rw [← e]
  rfl
end Go.Proofs.Ytgebjmcdebdbmaa
