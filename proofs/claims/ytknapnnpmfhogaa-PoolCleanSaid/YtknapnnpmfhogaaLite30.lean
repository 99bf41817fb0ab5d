/-
  Bytes with others at a place, by a copy: what the conversions and the copy do, at the model's world.
-/
import Derived.Test.YtknapnnpmfhogaaLite29
namespace Go.Lite
open Go
section
variable {P : Program} {Z : Zs} {w : World}
theorem run_storeCells_atB (P : Program) (g o : Nat) (t : TypeId) (fz : Nat × Nat) : ∀ (vs : List Value) (i : Nat) (cur : Array Value) (w : World), w.heap[g]? = some (.cells cur t fz) → cur.size ≤ fz.1 → o + i + vs.length ≤ cur.size → (∀ v ∈ vs, v.oneCell' = true) →
    (storeCells ⟨g, o, none⟩ vs i).run P w = .ok () (w.setRow g (cur.toList.take (o + i) ++ vs ++ cur.toList.drop (o + i + vs.length)).toArray)
  | [], i, cur, w, hg, _, _, _ => by
    simp only [storeCells, List.append_nil, List.length_nil, Nat.add_zero, List.take_append_drop, Array.toArray_toList]
    rw [setRow_self w g cur t fz hg]
    rfl
  | v :: rest, i, cur, w, hg, hfz, hl, h1 => by
    have hi : o + i < cur.size := by simp at hl; omega
    have hadd : (⟨g, o, none⟩ : Addr).add i = ⟨g, o + i, none⟩ := by unfold Addr.add; split <;> simp_all
    have hcell : w.cell? ⟨g, o + i, none⟩ = some cur[o + i] := by simp [World.cell?, hg, hi]
    have hfro : w.frozen? ⟨g, o + i, none⟩ = false := by
      obtain ⟨lo, hi'⟩ := fz
      simp only [World.frozen?, hg, Bool.and_eq_false_iff, decide_eq_false_iff_not]
      left
      simp only at hfz
      omega
    have hst : (store ((⟨g, o, none⟩ : Addr).add i) v).run P w = .ok () (w.setRow g (cur.setIfInBounds (o + i) v)) := by
      rw [hadd, run_store P w _ v _ (h1 v (by simp)), hcell]
      simp [hfro, setCell_eq_setRow w g (o + i) cur t fz v hg]
    have ih := run_storeCells_atB P g o t fz rest (i + 1) (cur.setIfInBounds (o + i) v) (w.setRow g (cur.setIfInBounds (o + i) v)) (setRow_heap w g cur _ t _ hg) (by simpa using hfz) (by simp at hl ⊢; omega) (fun x hx => h1 x (by simp [hx]))
    simp only [storeCells, Sem.run_bind, hst, Result.andThen_ok, ih, setRow_setRow]
    congr 3
    have e := list_seg_step cur.toList (o + i) v rest (by simp at hl ⊢; omega)
    simpa [Array.toList_setIfInBounds, Nat.add_assoc] using e
theorem store_cellsB {g p : Nat} {us : Array Value} {t : TypeId} {fz : Nat × Nat} {vals : List Value} (hg : w.heap[g]? = some (.cells us t fz)) (hp : p + vals.length ≤ us.size) :
    (w.setRow g (us.toList.take p ++ vals ++ us.toList.drop (p + vals.length)).toArray).heap[g]? = some (.cells (us.toList.take p ++ vals ++ us.toList.drop (p + vals.length)).toArray t fz) ∧
    ∀ o, (w.setRow g (us.toList.take p ++ vals ++ us.toList.drop (p + vals.length)).toArray).cell? ⟨g, o, none⟩ = if p ≤ o ∧ o < p + vals.length then vals[o - p]? else us[o]? := by
  have hg' := setRow_heap w g us (us.toList.take p ++ vals ++ us.toList.drop (p + vals.length)).toArray t fz hg
  refine ⟨hg', fun o => ?_⟩
  rw [cell_heap hg']
  have hto : (us.toList.take p).length = p := by simp; omega
  simp only [List.getElem?_toArray, List.append_assoc]
  by_cases h1 : o < p
  · rw [if_neg (by omega), List.getElem?_append_left (by omega), List.getElem?_take, if_pos h1]
    simp
  · rw [List.getElem?_append_right (by omega), hto]
    by_cases h2 : o < p + vals.length
    · rw [if_pos (by omega), List.getElem?_append_left (by omega)]
    · rw [if_neg (by omega), List.getElem?_append_right (by omega), List.getElem?_drop]
      simp only [Array.getElem?_toList]
      congr 1
      omega
theorem numsOf_append : ∀ {a b : List V} {x y : List Int}, numsOf a = some x → numsOf b = some y → numsOf (a ++ b) = some (x ++ y)
  | [], b, x, y, h, h2 => by cases h; exact h2
  | v :: a, b, x, y, h, h2 => by
    cases v with
    | int k n =>
      cases k with
      | u8 =>
        simp only [numsOf, Option.map_eq_some_iff] at h
        obtain ⟨x', h1, rfl⟩ := h
        simp only [List.cons_append, numsOf, numsOf_append h1 h2, Option.map_some]
      | _ => simp [numsOf] at h
    | _ => simp [numsOf] at h
structure OverW (P : Program) (f : FuncId) (st t e : TypeId) : Prop where
  string : P.underlying st = some .string
  row : P.underlying t = some (.slice e)
  byte : P.underlying e = some (.int .u8)
  one : P.cellsOf e = 1
  walk : ∀ (b : ByteArray) (n L c : Nat) (A : Option Addr) (w w2 : World) (r : Value), n ≤ b.size → b.size ≤ grownCap w b.size 0 e →
    (∀ ty o, o = n ∨ grownCap w b.size 0 e = n → (Builtin.copy_ #[t, t] ty #[.slice (some ⟨w.heap.size, o, none⟩) (b.size - n) (grownCap w b.size 0 e - n), .slice A L c]).run P (Lib.bytesWorld w e b) = .ok (goInt L) w2) →
    (convert t st (.slice (some ⟨w.heap.size, 0, none⟩) b.size (grownCap w b.size 0 e))).run P w2 = .ok r w2 →
    Calls P f #[.string b, .int .i64 (n : Int), .slice A L c] w fun e w' => e = .returned r ∧ w' = w2
theorem over_sound {f : FuncId} {st t e : TypeId} (W : OverW P f st t e) : PureOK P fun f' as => if f' = f then overP as else none := by
  intro f' as r h hok Z w us hzin ha
  simp only at h
  by_cases hf : f' = f
  rotate_left
  · rw [if_neg hf] at h; cases h
  subst hf
  rw [if_pos rfl] at h
  unfold overP at h
  split at h
  rotate_left
  · cases h
  rename_i s n l
  split at h
  rotate_left
  · cases h
  rename_i hc
  obtain ⟨hn0, hnl⟩ := hc
  simp only [Option.map_eq_some_iff] at h
  obtain ⟨ns, hns, rfl⟩ := h
  obtain ⟨hl, hv⟩ := ha
  match us, hl, hv with
  | [u0, u1, u2], hl, hv =>
  have h0 := hv 0 (.str s) u0 rfl rfl
  have h1 := hv 1 (.int .i64 n) u1 rfl rfl
  have h2 := hv 2 (.sl l) u2 rfl rfl
  obtain ⟨b, rfl, rfl⟩ := h0.strInv
  cases h1
  obtain ⟨m, rfl⟩ : ∃ m : Nat, n = (m : Int) := ⟨n.toNat, by omega⟩
  rw [toNat_cast] at hnl ⊢
  have hbs : b.data.toList.length = b.size := Array.length_toList
  rw [hbs] at hnl
  obtain ⟨q1, q2⟩ := numsOf_get hns
  obtain ⟨w1, hw1⟩ : ∃ w1, w1 = Lib.bytesWorld w e b := ⟨_, rfl⟩
  have hz1 : ZExt Z w Z w1 := by
    refine .of fun g o hz => ⟨hz, ?_⟩
    rw [hw1]
    exact same_block (Lib.bytesWorld_at_old w e b g (hzin g o hz)) o
  have hsz1 : w1.heap.size = w.heap.size + 1 := by rw [hw1]; exact Lib.bytesWorld_size w e b
  have hg1 : w1.heap[w.heap.size]? = some (.cells (Lib.bytesCells w e b) e ((Lib.bytesCells w e b).size, (Lib.bytesCells w e b).size + 1)) := by rw [hw1]; exact Lib.bytesWorld_at_new w e b
  have hcap := grownCap_ge w b.size 0 e
  have hcs : (Lib.bytesCells w e b).size = grownCap w b.size 0 e := by
    unfold Lib.bytesCells
    simp only [Array.size_append, Array.size_map, Array.size_replicate]
    have : b.data.size = b.size := rfl
    omega
  have s1 : SR P Z w1 j0 [] := ⟨fun id o h => by simp at h, fun id id' o o' g h => by simp at h, fun _ _ => rfl, fun g o hz => by have := hzin g o hz; omega⟩
  have h2' : VR Z w1 j0 (.sl l) u2 := h2.mono hz1 (JExt.refl _)
  have hpos : 0 < P.cellsOf e := by rw [W.one]; decide
  have hall : ∀ y ∈ l, y.cells.length = P.cellsOf e := by
    intro y hy
    obtain ⟨k, hk⟩ := List.getElem?_of_mem hy
    have hkn : k < ns.length := by rw [q1]; exact (List.getElem?_eq_some_iff.1 hk).1
    have := q2 k _ (List.getElem?_eq_getElem hkn)
    rw [hk] at this
    cases this
    rw [W.one]; rfl
  obtain ⟨news, hA, hnr⟩ := args_sound s1 (t := t) (tx := t) (x := .sl l) (by simp [appTy]) W.row hpos (xs := l) rfl hall h2'
  obtain ⟨i, hi, his, _⟩ := info_zero hpos
  obtain ⟨A, c, rfl, _⟩ := elems_sound s1 (x := .sl l) (xs := l) rfl h2'
  have hlen := hA.len w1
  have hsize := hA.size
  rw [W.one] at hnr hsize
  rw [Nat.mul_one] at hsize
  have hmin : Nat.min l.length (b.size - m) = l.length := Nat.min_eq_left (by omega)
  have hfc := hA.cells l.length w1 (Nat.le_refl _) rfl
  rw [← his] at hfc
  have his1 : i.size = 1 := by rw [his, W.one]
  have htk : news.take (l.length * i.size) = news := List.take_of_length_le (by rw [his1]; omega)
  rw [htk] at hfc
  have hpl : m + news.length ≤ (Lib.bytesCells w e b).size := by omega
  have hone : ∀ v ∈ news, v.oneCell' = true := hA.one
  have hst := run_storeCells_atB P w.heap.size m e _ news 0 _ w1 hg1 (Nat.le_refl _) (by simpa using hpl) hone
  simp only [Nat.add_zero] at hst
  obtain ⟨w2, hw2⟩ : ∃ w2, w2 = w1.setRow w.heap.size ((Lib.bytesCells w e b).toList.take m ++ news ++ (Lib.bytesCells w e b).toList.drop (m + news.length)).toArray := ⟨_, rfl⟩
  obtain ⟨hg2, hcell⟩ := store_cellsB (w := w1) (p := m) (vals := news) hg1 hpl
  rw [← hw2] at hg2 hcell hst
  have hcopy : ∀ ty o, o = m ∨ grownCap w b.size 0 e = m → (Builtin.copy_ #[t, t] ty #[.slice (some ⟨w.heap.size, o, none⟩) (b.size - m) (grownCap w b.size 0 e - m), .slice A l.length c]).run P w1 = .ok (goInt l.length) w2 := by
    intro ty o ho
    have : (Builtin.copy_ #[t, t] ty #[.slice (some ⟨w.heap.size, o, none⟩) (b.size - m) (grownCap w b.size 0 e - m), .slice A l.length c]).run P w1 = ((storeCells ⟨w.heap.size, o, none⟩ news).run P w1).andThen fun _ w1 => .ok (goInt l.length) w1 := by
      simp [Builtin.copy_, run_underlying W.row, hlen, sizeOf, typeInfo, hi, hmin, hfc]
    rw [this]
    rcases ho with rfl | ho
    · rw [hst]; rfl
    · have hn0 : news = [] := List.eq_nil_of_length_eq_zero (by omega)
      have he : w2 = w1 := by
        rw [hw2, hn0]
        simp only [List.append_nil, List.length_nil, Nat.add_zero, List.take_append_drop, Array.toArray_toList]
        exact setRow_self w1 w.heap.size _ e _ hg1
      rw [hn0, he]
      rfl
  have hot : ∀ k, k < w.heap.size → w2.heap[k]? = w.heap[k]? := by
    intro k hk
    rw [hw2, setRow_other w1 w.heap.size k _ (by omega), hw1, Lib.bytesWorld_at_old w e b k hk]
  have hz2 : ZExt Z w Z w2 := .of fun g o hz => ⟨hz, same_block (hot g (hzin g o hz)) o⟩
  obtain ⟨l2, hl2⟩ : ∃ l2, l2 = (bytesV (b.data.toList.take m) ++ l) ++ bytesV (b.data.toList.drop (m + l.length)) := ⟨_, rfl⟩
  have hl2n : numsOf l2 = some (((b.data.toList.take m).map (fun b => (b.toNat : Int)) ++ ns) ++ (b.data.toList.drop (m + l.length)).map (fun b => (b.toNat : Int))) := by
    rw [hl2]
    exact numsOf_append (numsOf_append (numsOf_bytes _) hns) (numsOf_bytes _)
  have hl2l : l2.length = b.size := by
    rw [hl2]
    simp only [List.length_append, bytesV_len, List.length_take, List.length_drop, hbs]
    omega
  have htext : textOf P e l2 = some (.str (overB b.data.toList m (ns.map fun x => UInt8.ofNat x.toNat))) := by
    unfold textOf
    rw [W.byte]
    simp only
    rw [hl2n, Option.map_some, List.map_append, List.map_append, nums_back, nums_back]
    unfold overB
    rw [List.length_map, q1]
  have hbc : ∀ (k : Nat) (x : V), (bytesV b.data.toList)[k]? = some x → ∃ z : Int, x = V.int .u8 z ∧ (Lib.bytesCells w e b)[k]? = some (Value.int .u8 z) := by
    intro k x hx
    obtain ⟨c', hc', rfl⟩ := bytesV_get hx
    refine ⟨_, rfl, ?_⟩
    have hlt : k < b.data.size := by have := (List.getElem?_eq_some_iff.1 hc').1; simpa using this
    unfold Lib.bytesCells
    rw [Array.getElem?_append_left (by simpa using hlt), Array.getElem?_map]
    have : b.data[k]? = some c' := by rw [← hc']; simp
    rw [this]; rfl
  have hel : ∀ (k : Nat) (y : V), l2[k]? = some y → ∃ z : Int, y = V.int .u8 z ∧ w2.cell? ⟨w.heap.size, k, none⟩ = some (Value.int .u8 z) := by
    intro k y hy
    rw [hcell, hsize]
    have hto : (bytesV (b.data.toList.take m)).length = m := by rw [bytesV_len, List.length_take, hbs]; omega
    rw [hl2, List.append_assoc] at hy
    by_cases k1 : k < m
    · rw [if_neg (by omega)]
      rw [List.getElem?_append_left (by omega)] at hy
      apply hbc
      rw [← hy]
      unfold bytesV
      rw [List.map_take, List.getElem?_take, if_pos k1]
    · rw [List.getElem?_append_right (by omega), hto] at hy
      by_cases k2 : k < m + l.length
      · rw [if_pos (by omega)]
        rw [List.getElem?_append_left (by omega)] at hy
        have hkn : k - m < ns.length := by omega
        have := q2 (k - m) _ (List.getElem?_eq_getElem hkn)
        rw [hy] at this
        cases this
        obtain ⟨_, u, hu, hvu⟩ := hnr (k - m) _ 0 _ hy rfl
        rw [Nat.mul_one, Nat.add_zero] at hu
        cases hvu
        exact ⟨_, rfl, hu⟩
      · rw [if_neg (by omega)]
        rw [List.getElem?_append_right (by omega)] at hy
        apply hbc
        rw [← hy]
        unfold bytesV
        rw [List.map_drop, List.getElem?_drop]
        congr 1
        omega
  obtain ⟨r, hr1, hr2⟩ := text_sound (P := P) (Z := Z) (w := w2) (j := j0) (A := some ⟨w.heap.size, 0, none⟩) (c := grownCap w b.size 0 e) W.row W.string htext (.inr ⟨w.heap.size, 0, 1, rfl, Nat.one_pos, fun k y hk => by
    obtain ⟨z, rfl, hz⟩ := hel k y hk
    refine ⟨rfl, fun i x hx => ?_⟩
    cases i with
    | succ i => simp [V.cells] at hx
    | zero =>
      simp [V.cells] at hx
      subst hx
      exact ⟨rfl, _, by simpa using hz, .int⟩⟩)
  rw [hl2l] at hr1
  refine (W.walk b m l.length c A w w2 r (by omega) hcap (by rw [← hw1]; exact hcopy) hr1).mono fun x w' hx => ?_
  obtain ⟨rfl, rfl⟩ := hx
  refine ⟨r, Z, rfl, hr2, ?_⟩
  refine ⟨?_, ?_, ?_, ?_, fun g hg => ⟨hot g hg, fun _ => Iff.rfl⟩, fun g o hz => ?_, rfl, rfl⟩
  · rw [hw2, hw1]; rfl
  · rw [hw2, hw1]; rfl
  · rw [hw2, hw1]; rfl
  · rw [hw2]; simp; omega
  · have := hzin g o hz
    rw [hw2]; simp; omega
end
end Go.Lite