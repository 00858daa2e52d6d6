/-
  How the arguments of a statement read: what the form's reader says of a value, in the words of this seat.
-/
import Derived.Test.YtilhceihelcdgaaL
import Derived.ProofKit
import Derived.OpenShut
import Derived.SizedLaws
namespace Go.Proofs.Ytilhceihelcdgaa
open Go.RowKit Go.ChangeShapes Go.WideShapes Go.ChangeAt

theorem own : ownKnob Try.prog.godebug = none := by kernel_rfl
theorem laidOut : laidOutB Try.prog = true := by kernel_rfl

/-- The cells cs read as a datum of type t, within the form's reach. -/
def Rd (w : World) (t : TypeId) (cs : List Value) : Prop :=
  ∃ (H : Type) (enc : TypeId × Value → H) (fuel : Nat) (x : DataW H × List MemPlace), DataW.trod enc Try.prog w 0 (fun _ => true) true fuel t cs = some x ∧ ∀ n ∈ DataW.weights Try.prog t x.1, n ≤ reachBytes

theorem Rd.of {H : Type} {enc : TypeId × Value → H} {w : World} {t : TypeId} {v : Value} {d : DataW H} {p : List MemPlace} (h : DataW.Trod enc Try.prog w 0 (fun _ => true) true t v d p) (hw : ∀ n ∈ DataW.weights Try.prog t d, n ≤ reachBytes) : Rd w t v.cells.toList := by
  obtain ⟨fuel, hf⟩ := h
  exact ⟨H, enc, fuel, (d, p), hf, hw⟩

theorem rd_int {w : World} {t : TypeId} {k : IntKind} {cs : List Value} (ht : Try.prog.underlying t = some (.int k)) (h : Rd w t cs) : ∃ n, cs = [.int k n] ∧ (Lit.int k n).wf = true := by
  obtain ⟨H, enc, fuel, x, hx, _⟩ := h
  cases fuel with
  | zero => simp [DataW.trod] at hx
  | succ m =>
    unfold DataW.trod at hx
    rw [ht] at hx
    split at hx <;> simp_all
theorem rd_u8 {w : World} {cs : List Value} (h : Rd w 5 cs) : ∃ n, cs = [.int .u8 n] ∧ 0 ≤ n ∧ n < 256 := by
  obtain ⟨n, rfl, hn⟩ := rd_int (k := .u8) (by kernel_rfl) h
  refine ⟨n, rfl, ?_⟩
  have := hn
  simp only [Lit.wf, Bool.and_eq_true, decide_eq_true_eq] at this
  have h1 : IntKind.u8.min = 0 := rfl
  have h2 : IntKind.u8.max = 255 := rfl
  omega
theorem rd_i64 {w : World} {t : TypeId} {cs : List Value} (ht : Try.prog.underlying t = some (.int .i64)) (h : Rd w t cs) : ∃ n, cs = [.int .i64 n] ∧ -9223372036854775808 ≤ n ∧ n ≤ 9223372036854775807 := by
  obtain ⟨n, rfl, hn⟩ := rd_int ht h
  refine ⟨n, rfl, ?_⟩
  have := hn
  simp only [Lit.wf, Bool.and_eq_true, decide_eq_true_eq] at this
  have h1 : IntKind.i64.min = -9223372036854775808 := rfl
  have h2 : IntKind.i64.max = 9223372036854775807 := rfl
  omega

theorem weightsAll_mem {H : Type} {e : TypeId} {d : DataW H} {n : Nat} : ∀ {l : List (DataW H)}, d ∈ l → n ∈ DataW.weights Try.prog e d → n ∈ DataW.weightsAll Try.prog e l
  | [], h, _ => by cases h
  | c :: r, h, hn => by
    unfold DataW.weightsAll
    rcases List.mem_cons.1 h with rfl | h
    · exact List.mem_append_left _ hn
    · exact List.mem_append_right _ (weightsAll_mem h hn)

/-- An array: its elements read. -/
theorem rd_array {w : World} {t e : TypeId} {n : Nat} {cs : List Value} (ht : Try.prog.underlying t = some (.array n e)) (h : Rd w t cs) :
    cs.length = Try.prog.cellsOf t ∧ ∀ i, i < n → Rd w e ((cs.drop (i * Try.prog.cellsOf e)).take (Try.prog.cellsOf e)) := by
  obtain ⟨H, enc, fuel, x, hx, hw⟩ := h
  obtain ⟨xs, m, rfl, rfl, h1, h2, h3⟩ := DataW.trod_array ht hx
  refine ⟨h1, fun i hi => ?_⟩
  have hil : i < xs.length := by omega
  have := h3 i hi
  rw [List.getElem?_eq_getElem hil] at this
  refine ⟨H, enc, m, xs[i], this, fun k hk => hw k ?_⟩
  unfold DataW.weights
  rw [ht]
  exact weightsAll_mem (List.mem_map.2 ⟨xs[i], List.getElem_mem hil, rfl⟩) hk

theorem cells_name : Try.prog.cellsOf 30 = 8 := by kernel_rfl
theorem cells_u8 : Try.prog.cellsOf 5 = 1 := by kernel_rfl
theorem rd_name {w : World} {cs : List Value} (h : Rd w 30 cs) : ∃ l, cs = bsv l ∧ IsN l := by
  obtain ⟨h8, hr⟩ := rd_array un_name h
  rw [cells_name] at h8
  rw [cells_u8] at hr
  match cs, h8 with
  | [v0, v1, v2, v3, v4, v5, v6, v7], _ =>
    obtain ⟨c0, e0, b0⟩ := rd_u8 (hr 0 (by omega))
    obtain ⟨c1, e1, b1⟩ := rd_u8 (hr 1 (by omega))
    obtain ⟨c2, e2, b2⟩ := rd_u8 (hr 2 (by omega))
    obtain ⟨c3, e3, b3⟩ := rd_u8 (hr 3 (by omega))
    obtain ⟨c4, e4, b4⟩ := rd_u8 (hr 4 (by omega))
    obtain ⟨c5, e5, b5⟩ := rd_u8 (hr 5 (by omega))
    obtain ⟨c6, e6, b6⟩ := rd_u8 (hr 6 (by omega))
    obtain ⟨c7, e7, b7⟩ := rd_u8 (hr 7 (by omega))
    simp at e0 e1 e2 e3 e4 e5 e6 e7
    subst e0 e1 e2 e3 e4 e5 e6 e7
    exact ⟨[c0, c1, c2, c3, c4, c5, c6, c7], rfl, IsN.mk b0 b1 b2 b3 b4 b5 b6 b7⟩

theorem cells_get {w : World} {base n : Nat} {a : Addr} {es : List Value} (h : w.cells? base a n = some es) : es.length = n ∧ ∀ j, j < n → w.cell? (a.add j) = es[j]? := by
  unfold World.cells? at h
  split at h
  · have hl := mapM_some_length h
    exact ⟨by simpa using hl, fun j hj => mapM_some_get h j j (by simp [hj])⟩
  · cases h

/-- A slice: its length, its room, its elements. -/
theorem rd_slice {w : World} {t e : TypeId} {k m : Nat} {cs : List Value} (ht : Try.prog.underlying t = some (.slice e)) (hk : Try.prog.cellsOf e = k) (hm : Try.prog.bytesOf e = m) (hk0 : 0 < k) (h : Rd w t cs) :
    ∃ a n cap, cs = [.slice a n cap] ∧ n ≤ cap ∧ cap ≤ maxLen ∧ (a = none → cap = 0) ∧ cap * m ≤ reachBytes ∧
      ∀ i, i < n → ∃ b o es, a = some ⟨b, o, none⟩ ∧ es.length = k ∧ Rd w e es ∧ ∀ j, j < k → w.cell? ⟨b, o + i * k + j, none⟩ = es[j]? := by
  obtain ⟨H, enc, fuel, x, hx, hw⟩ := h
  rcases DataW.trod_slice ht hx with ⟨rfl, rfl⟩ | ⟨a, len, cap, elems, rest, n, rfl, rfl, rfl, _, h1, h2, h3, h4, h5, _⟩
  · exact ⟨none, 0, 0, rfl, Nat.le_refl _, Nat.zero_le _, fun _ => rfl, by omega, fun i hi => absurd hi (by omega)⟩
  · obtain ⟨h5, _⟩ := h5 rfl
    refine ⟨some a, len, cap, rfl, h1, h2, (fun e => by cases e), ?_, fun i hi => ?_⟩
    · have := hw ((elems.length + rest.length) * Try.prog.bytesOf e) (by unfold DataW.weights; rw [ht]; simp)
      rw [hm] at this
      have e1 : elems.length + rest.length = cap := by omega
      rw [e1] at this
      exact this
    · have hil : i < elems.length := by omega
      have := h4 i hi
      rw [List.getElem?_eq_getElem hil, hk] at this
      obtain ⟨es, he, ht'⟩ := Option.bind_eq_some_iff.1 this
      obtain ⟨hl, hc⟩ := cells_get he
      obtain ⟨b, o, spot⟩ := a
      have h0 := hc 0 hk0
      rw [List.getElem?_eq_getElem (show 0 < es.length by omega)] at h0
      have hspot : spot = none := by
        have h00 := h4 0 (by omega)
        rw [List.getElem?_eq_getElem (show 0 < elems.length by omega), hk] at h00
        obtain ⟨es0, he0, _⟩ := Option.bind_eq_some_iff.1 h00
        obtain ⟨hl0, hc0⟩ := cells_get he0
        have h01 := hc0 0 hk0
        rw [List.getElem?_eq_getElem (show 0 < es0.length by omega)] at h01
        simpa [Addr.add] using World.cell?_spot h01
      subst hspot
      refine ⟨b, o, es, rfl, hl, ⟨H, enc, n, elems[i], ht', fun q hq => hw q ?_⟩, fun j hj => ?_⟩
      · unfold DataW.weights
        rw [ht]
        refine List.mem_cons_of_mem _ (List.mem_append_left _ (weightsAll_mem (List.mem_map.2 ⟨elems[i], List.getElem_mem hil, rfl⟩) hq))
      · have := hc j hj
        rw [Addr.add_lit', Addr.add_lit'] at this
        exact this

theorem list_of {α : Type} (d : α) (P : Nat → α → Prop) : ∀ n, (∀ i, i < n → ∃ x, P i x) → ∃ l : List α, l.length = n ∧ ∀ i, i < n → P i (l.getD i d)
  | 0, _ => ⟨[], rfl, fun i hi => absurd hi (by omega)⟩
  | n + 1, h => by
    obtain ⟨l, hl, hp⟩ := list_of d P n (fun i hi => h i (by omega))
    obtain ⟨x, hx⟩ := h n (by omega)
    refine ⟨l ++ [x], by simp [hl], fun i hi => ?_⟩
    by_cases hin : i < n
    · have := hp i hin
      rw [List.getD_eq_getElem?_getD] at this ⊢
      rw [List.getElem?_append_left (by omega)]
      exact this
    · obtain rfl : i = n := by omega
      rw [List.getD_eq_getElem?_getD, List.getElem?_append_right (by omega), hl]
      simpa using hx
theorem reach47 : reachBytes = 140737488351232 := rfl

theorem rd_bytes {w : World} {cs : List Value} (h : Rd w 22 cs) : ∃ v l, cs = [v] ∧ Bs w v l := by
  obtain ⟨a, n, cap, rfl, h1, h2, h3, h4, h5⟩ := rd_slice (k := 1) (m := 1) un_bytes cells_u8 (by kernel_rfl) (by decide) h
  rw [reach47] at h4
  obtain ⟨l, hl, hp⟩ := list_of (0 : Int) (fun i x => ∃ b o, a = some ⟨b, o, none⟩ ∧ w.cell? ⟨b, o + i, none⟩ = some (.int .u8 x) ∧ 0 ≤ x ∧ x < 256) n (fun i hi => by
    obtain ⟨b, o, es, e1, e2, e3, e4⟩ := h5 i hi
    obtain ⟨x, rfl, b0, b1⟩ := rd_u8 e3
    have := e4 0 (by omega)
    simp only [Nat.mul_one, Nat.add_zero] at this
    exact ⟨x, b, o, e1, this, b0, b1⟩)
  refine ⟨_, l, rfl, ⟨a, cap, by rw [hl], by omega, h2, h3, by omega, by rw [bsv_length]; omega, fun hn => ?_⟩, fun x hx => ?_⟩
  · obtain ⟨b, o, rfl, _⟩ := hp 0 (by omega)
    refine ⟨b, o, rfl, fun j hj => ?_⟩
    obtain ⟨b', o', e, hc, _⟩ := hp j (by omega)
    cases e
    rw [hc, bsv_get (by omega)]
  · obtain ⟨i, hi, rfl⟩ := List.getElem_of_mem hx
    obtain ⟨_, _, _, _, h0⟩ := hp i (by omega)
    rwa [List.getD_eq_getElem?_getD, List.getElem?_eq_getElem hi] at h0

/-- A slice of names. -/
theorem bsv_flatten_get {L : List (List Int)} (hL : ∀ x ∈ L, IsN x) (i j : Nat) (hi : i < L.length) (hj : j < 8) : (bsv L.flatten)[i * 8 + j]? = (bsv (L.getD i []))[j]? := by
  induction L generalizing i with
  | nil => simp at hi
  | cons x r ih =>
    have hx := hL x (List.mem_cons_self ..)
    cases i with
    | zero =>
      simp only [Nat.zero_mul, Nat.zero_add, List.flatten_cons, bsv_append, List.getD_cons_zero]
      rw [List.getElem?_append_left (by rw [bsv_length, hx.1]; omega)]
    | succ i =>
      simp only [List.flatten_cons, bsv_append, List.getD_cons_succ]
      rw [List.getElem?_append_right (by rw [bsv_length, hx.1]; omega), bsv_length, hx.1, show (i + 1) * 8 + j - 8 = i * 8 + j by omega]
      exact ih (fun y hy => hL y (List.mem_cons_of_mem _ hy)) i (by simpa using hi)
theorem flatten_len {L : List (List Int)} (hL : ∀ x ∈ L, IsN x) : L.flatten.length = L.length * 8 := by
  induction L with
  | nil => rfl
  | cons x r ih =>
    have hx := hL x (List.mem_cons_self ..)
    simp only [List.flatten_cons, List.length_append, List.length_cons, hx.1, ih (fun y hy => hL y (List.mem_cons_of_mem _ hy))]
    omega
theorem rd_names {w : World} {cs : List Value} (h : Rd w 65 cs) : ∃ v L, cs = [v] ∧ Ns w v L := by
  obtain ⟨a, n, cap, rfl, h1, h2, h3, h4, h5⟩ := rd_slice (k := 8) (m := 8) un_names cells_name (by kernel_rfl) (by decide) h
  rw [reach47] at h4
  obtain ⟨L, hl, hp⟩ := list_of ([] : List Int) (fun i x => ∃ b o, a = some ⟨b, o, none⟩ ∧ (∀ j, j < 8 → w.cell? ⟨b, o + i * 8 + j, none⟩ = (bsv x)[j]?) ∧ IsN x) n (fun i hi => by
    obtain ⟨b, o, es, e1, e2, e3, e4⟩ := h5 i hi
    obtain ⟨x, rfl, hx⟩ := rd_name e3
    exact ⟨x, b, o, e1, e4, hx⟩)
  have hL : ∀ x ∈ L, IsN x := fun x hx => by
    obtain ⟨i, hi, rfl⟩ := List.getElem_of_mem hx
    obtain ⟨_, _, _, _, h0⟩ := hp i (by omega)
    rwa [List.getD_eq_getElem?_getD, List.getElem?_eq_getElem hi] at h0
  refine ⟨_, L, rfl, ⟨a, cap, by rw [hl], by omega, h2, h3, by omega, by rw [bsv_length, flatten_len hL], fun hn => ?_⟩, hL⟩
  obtain ⟨b, o, rfl, _⟩ := hp 0 (by omega)
  refine ⟨b, o, rfl, fun j hj => ?_⟩
  obtain ⟨b', o', e, hc, _⟩ := hp (j / 8) (by omega)
  cases e
  have := hc (j % 8) (by omega)
  rw [show o + j / 8 * 8 + j % 8 = o + j by omega] at this
  rw [this, ← bsv_flatten_get hL (j / 8) (j % 8) (by omega) (by omega), show j / 8 * 8 + j % 8 = j by omega]

/-- A slice of ints. -/
def Is (w : World) (v : Value) (l : List Int) : Prop := Sl w v 1 l.length (l.map (Value.int .i64)) ∧ ∀ x ∈ l, -9223372036854775808 ≤ x ∧ x ≤ 9223372036854775807
theorem rd_ints {w : World} {cs : List Value} (h : Rd w 38 cs) : ∃ v l, cs = [v] ∧ Is w v l := by
  obtain ⟨a, n, cap, rfl, h1, h2, h3, h4, h5⟩ := rd_slice (k := 1) (m := 8) un_ints (by kernel_rfl) (by kernel_rfl) (by decide) h
  rw [reach47] at h4
  obtain ⟨l, hl, hp⟩ := list_of (0 : Int) (fun i x => ∃ b o, a = some ⟨b, o, none⟩ ∧ w.cell? ⟨b, o + i, none⟩ = some (.int .i64 x) ∧ -9223372036854775808 ≤ x ∧ x ≤ 9223372036854775807) n (fun i hi => by
    obtain ⟨b, o, es, e1, e2, e3, e4⟩ := h5 i hi
    obtain ⟨x, rfl, b0, b1⟩ := rd_i64 (by kernel_rfl) e3
    have := e4 0 (by omega)
    simp only [Nat.mul_one, Nat.add_zero] at this
    exact ⟨x, b, o, e1, this, b0, b1⟩)
  refine ⟨_, l, rfl, ⟨a, cap, by rw [hl], by omega, h2, h3, by omega, by simp, fun hn => ?_⟩, fun x hx => ?_⟩
  · obtain ⟨b, o, rfl, _⟩ := hp 0 (by omega)
    refine ⟨b, o, rfl, fun j hj => ?_⟩
    obtain ⟨b', o', e, hc, _⟩ := hp j (by omega)
    cases e
    rw [hc]
    simp [List.getD_eq_getElem?_getD, List.getElem?_eq_getElem (show j < l.length by omega)]
  · obtain ⟨i, hi, rfl⟩ := List.getElem_of_mem hx
    obtain ⟨_, _, _, _, h0⟩ := hp i (by omega)
    rwa [List.getD_eq_getElem?_getD, List.getElem?_eq_getElem hi] at h0

/-! An argument, by its type. -/
section
variable {w : World} {r : Reach} {b0 : Nat} {v : Value}
set_option maxRecDepth 100000 in
theorem arg_int (ho : Value.okWide Try.prog w r b0 3 v) (h : Rd w 3 v.cells.toList) : ∃ n, v = .int .i64 n ∧ -9223372036854775808 ≤ n ∧ n ≤ 9223372036854775807 := by
  obtain ⟨n, rfl⟩ := okWide_int (k := .i64) (by kernel_rfl) ho
  obtain ⟨m, hm, hb⟩ := rd_i64 (by kernel_rfl) h
  simp [Value.cells] at hm
  subst hm
  exact ⟨n, rfl, hb⟩
set_option maxRecDepth 100000 in
theorem arg_u8 (ho : Value.okWide Try.prog w r b0 5 v) (h : Rd w 5 v.cells.toList) : ∃ n, v = .int .u8 n ∧ 0 ≤ n ∧ n < 256 := by
  obtain ⟨n, rfl⟩ := okWide_int (k := .u8) (by kernel_rfl) ho
  obtain ⟨m, hm, hb⟩ := rd_u8 h
  simp [Value.cells] at hm
  subst hm
  exact ⟨n, rfl, hb⟩
set_option maxRecDepth 100000 in
theorem arg_name (ho : Value.okWide Try.prog w r b0 30 v) (h : Rd w 30 v.cells.toList) : ∃ l, v = nv l ∧ IsN l := by
  simp only [Value.okWide, un_name] at ho
  obtain ⟨cs, rfl, _, _⟩ := ho
  obtain ⟨l, hl, hn⟩ := rd_name h
  refine ⟨l, ?_, hn⟩
  have : cs = (bsv l).toArray := by
    apply Array.ext'
    simpa [Value.cells] using hl
  rw [this]; rfl
set_option maxRecDepth 100000 in
theorem arg_bytes (ho : Value.okWide Try.prog w r b0 22 v) (h : Rd w 22 v.cells.toList) : ∃ l, Bs w v l := by
  obtain ⟨a, n, c, rfl⟩ := okWide_slice un_bytes ho
  obtain ⟨u, l, hu, hl⟩ := rd_bytes h
  simp [Value.cells] at hu
  subst hu
  exact ⟨l, hl⟩
set_option maxRecDepth 100000 in
theorem arg_ints (ho : Value.okWide Try.prog w r b0 38 v) (h : Rd w 38 v.cells.toList) : ∃ l, Is w v l := by
  obtain ⟨a, n, c, rfl⟩ := okWide_slice un_ints ho
  obtain ⟨u, l, hu, hl⟩ := rd_ints h
  simp [Value.cells] at hu
  subst hu
  exact ⟨l, hl⟩
end
end Go.Proofs.Ytilhceihelcdgaa
