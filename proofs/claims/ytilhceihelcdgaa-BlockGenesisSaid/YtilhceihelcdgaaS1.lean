/-
  Byte slices as strings.
-/
import Derived.Test.YtilhceihelcdgaaE1
import Derived.Laws.BytesArg
namespace Go.Proofs.Ytilhceihelcdgaa
open Go.RowKit

theorem un_string : Try.prog.underlying 9 = some .string := by kernel_rfl
theorem str_nil (w : World) : (convert 22 9 (.slice none 0 0)).run Try.prog w = .ok (.string ByteArray.empty) w := run_convert_bytes_nil w _ _ un_bytes un_u8 0 0 _ un_string
theorem Bs.str {w : World} {v : Value} {l : List Int} (h : Bs w v l) : (convert 22 9 v).run Try.prog w = .ok (.string (strOfNums l)) w := by
  obtain ⟨a, cap, rfl, h2, h3, h0, h4, h5, h6⟩ := h.1
  rcases Nat.eq_zero_or_pos l.length with hl | hl
  · obtain rfl := List.eq_nil_of_length_eq_zero hl
    cases a with
    | none => exact run_convert_bytes_nil w _ _ un_bytes un_u8 _ _ _ un_string
    | some a => 
      obtain ⟨b, o, t⟩ := a
      rw [run_convert_bytes_string w _ _ _ _ _ _ un_bytes un_u8 un_string, run_bytesToString w _ _ _ [] (by simp [loadCells, loadCellsFrom])]
      rfl
  · obtain ⟨b, o, rfl, hc⟩ := h6 hl
    refine run_convert_bytes_arg w _ _ un_bytes un_u8 b o _ _ l rfl (fun i hi => ?_) _ un_string
    rw [hc i (by omega), bsv_get hi]
theorem strOfNums_inj {a b : List Int} (ha : Byt a) (hb : Byt b) (h : (strOfNums a).toList = (strOfNums b).toList) : a = b := by
  have h2 : (strOfNums a).data.toList = (strOfNums b).data.toList := by
    rw [ByteArray.toList_eq, ByteArray.toList_eq] at h
    exact h
  rw [strOfNums_data, strOfNums_data] at h2
  clear h
  induction a generalizing b with
  | nil => cases b with
    | nil => rfl
    | cons y b => simp at h2
  | cons x a ih => cases b with
    | nil => simp at h2
    | cons y b =>
      simp only [List.map_cons, List.cons.injEq] at h2
      have hx := ha x (List.mem_cons_self ..)
      have hy := hb y (List.mem_cons_self ..)
      have e := congrArg UInt8.toNat h2.1
      simp only [UInt8.toNat_ofNat'] at e
      have : x = y := by omega
      rw [this, ih (fun z hz => ha z (List.mem_cons_of_mem _ hz)) (fun z hz => hb z (List.mem_cons_of_mem _ hz)) h2.2]

end Go.Proofs.Ytilhceihelcdgaa
