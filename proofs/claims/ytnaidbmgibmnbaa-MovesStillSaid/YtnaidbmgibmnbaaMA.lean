/-
  Pages in order: plain lists.
-/
import Derived.Test.YtnaidbmgibmnbaaLite31
import Derived.Test.YtnaidbmgibmnbaaLite28
namespace Go.Proofs.Ytnaidbmgibmnbaa
open Go Go.Lite

theorem iV_wfl (l : List Int) : wfl 1 (l.map iV) = true := wfl_map fun _ => rfl
theorem iV_flat (l : List Int) : ((l.map iV).all fun x => x.cells.all V.flat1) = true := flat_map fun _ => rfl
theorem idxK_iV {l : List Int} {n : Nat} {x : Int} {k : V → R} (h : l[n]? = some x) : idxK (l.map iV) n k = k (.int .i64 x) := idxK_map h

theorem srt_perm (l : List Int) : (srt l).Perm l := List.mergeSort_perm _ _
theorem srt_le (l : List Int) : (srt l).Pairwise (· ≤ ·) := by
  have := List.pairwise_mergeSort (le := fun x y : Int => decide (x ≤ y)) (fun a b c h1 h2 => by simp at h1 h2 ⊢; omega) (fun a b => by simp; omega) l
  exact this.imp fun h => by simpa using h
theorem srt_len (l : List Int) : (srt l).length = l.length := by simp [srt]
theorem srt_mem {l : List Int} {x : Int} : x ∈ srt l ↔ x ∈ l := (srt_perm l).mem_iff
theorem srt_nodup {l : List Int} : (srt l).Nodup ↔ l.Nodup := (srt_perm l).nodup_iff
theorem srt_lt {l : List Int} (h : l.Nodup) : (srt l).Pairwise (· < ·) := by
  have h1 := srt_le l
  have h2 := srt_nodup.2 h
  rw [List.pairwise_iff_getElem] at h1 ⊢
  intro i j hi hj hij
  have := h1 i j hi hj hij
  have hne : (srt l)[i] ≠ (srt l)[j] := fun e => by have := (List.getElem_inj h2).1 e; omega
  omega
theorem srt_self {l : List Int} (h : l.Pairwise (· < ·)) : srt l = l := List.mergeSort_of_pairwise (h.imp fun h => by simp; omega)
theorem srt_of_perm {l m : List Int} (h : l.Perm m) : srt l = srt m :=
  List.Perm.eq_of_pairwise (le := (· ≤ ·)) (fun a b _ _ h1 h2 => by omega) (srt_le l) (srt_le m) ((srt_perm l).trans (h.trans (srt_perm m).symm))

/-! ### cut -/

theorem nodup_adj : ∀ (zs : List Int), zs.Pairwise (· ≤ ·) → (∀ j, 0 < j → j < zs.length → zs[j]? ≠ zs[j - 1]?) → zs.Nodup
  | [], _, _ => List.nodup_nil
  | x :: r, hs, h => by
    rw [List.pairwise_cons] at hs
    rw [List.nodup_cons]
    refine ⟨fun hx => ?_, nodup_adj r hs.2 fun j h0 hj => ?_⟩
    · cases r with
      | nil => cases hx
      | cons y r =>
        have h1 := hs.1 y (by simp)
        have h2 : y ≤ x := by
          rcases List.mem_cons.1 hx with e | hx
          · omega
          · exact (List.pairwise_cons.1 hs.2).1 x hx
        have : x = y := by omega
        have h3 := h 1 (by omega) (by simp)
        simp at h3
        exact h3 this.symm
    · have := h (j + 1) (by omega) (by simp; omega)
      obtain ⟨i, rfl⟩ : ∃ i, j = i + 1 := ⟨j - 1, by omega⟩
      simpa using this
theorem compact_len (l : List Int) : (Lib.compact (srt l)).length = l.length ↔ l.Nodup := by
  have key : (Lib.compact (srt l)).length = (srt l).length ↔ ∀ j, j < (srt l).length → Lib.keeps (srt l).toArray j = true := by
    unfold Lib.compact Lib.compactUpTo
    rw [List.length_map]
    constructor
    · intro h j hj
      have := List.length_filter_eq_length_iff.1 (h.trans (by simp : _ = (List.range (srt l).length).length))
      exact this j (List.mem_range.2 hj)
    · intro h
      rw [List.length_filter_eq_length_iff.2 fun j hj => h j (List.mem_range.1 hj)]
      simp
  rw [srt_len] at key
  rw [key, ← srt_nodup]
  constructor
  · intro h
    refine nodup_adj _ (srt_le l) fun j h0 hj e => ?_
    have := h j (by rw [← srt_len l]; exact hj)
    simp only [Lib.keeps, decide_eq_true_eq] at this
    rcases this with rfl | this
    · omega
    · apply this
      rw [getElem!_pos _ _ (by simpa using hj), getElem!_pos _ _ (by simp; omega)]
      have e1 := List.getElem?_eq_getElem hj
      have e2 := List.getElem?_eq_getElem (l := srt l) (i := j - 1) (by omega)
      rw [e1, e2] at e
      simpa using e
  · intro h j hj
    simp only [Lib.keeps, decide_eq_true_eq]
    by_cases h0 : j = 0
    · exact .inl h0
    · right
      have hj' : j < (srt l).length := by rw [srt_len]; exact hj
      rw [getElem!_pos _ _ (by simpa using hj'), getElem!_pos _ _ (by simp; omega)]
      intro e
      have := (List.getElem_inj h (i := j) (j := j - 1) (h₀ := hj') (h₁ := by omega)).1 (by simpa using e)
      omega

/-- may pages be? -/
def pgB (n : Int) : Bool := decide (0 ≤ n) && decide (n < 1024)
def okB (l : List Int) : Bool := decide (l.length ≤ 512) && (l.all pgB && decide l.Nodup)
theorem okB_iff {l : List Int} : okB l = true ↔ l.length ≤ 512 ∧ (∀ x ∈ l, 0 ≤ x ∧ x < 1024) ∧ l.Nodup := by
  simp [okB, pgB]
theorem okB_perm {l m : List Int} (h : l.Perm m) : okB l = okB m := by
  have h1 := h.length_eq
  have h2 := h.all_eq (f := pgB)
  have h3 : decide l.Nodup = decide m.Nodup := decide_eq_decide.2 h.nodup_iff
  simp only [okB, h1, h2, h3]

/-! ### where one stands -/

theorem fi_idx (x : Int) : ∀ (l : List Int) (k : Nat), fi (fun y => x == y) l k = if x ∈ l then ((k + l.idxOf x : Nat) : Int) else -1
  | [], k => rfl
  | y :: l, k => by
    simp only [fi, List.idxOf_cons, List.mem_cons]
    by_cases h : x = y
    · subst h
      simp
    · have h1 : (x == y) = false := by simpa using h
      have h2 : (y == x) = false := by simpa using fun e => h e.symm
      simp only [h1, h2, Bool.false_eq_true, if_false, h, false_or, cond_false, fi_idx x l (k + 1)]
      split
      · congr 1; omega
      · rfl
def ix (l : List Int) (x : Int) : Int := if x ∈ l then (l.idxOf x : Int) else -1
theorem ix_neg {l : List Int} {x : Int} : ix l x < 0 ↔ x ∉ l := by
  unfold ix
  by_cases h : x ∈ l
  · rw [if_pos h]; simp [h]
  · rw [if_neg h]; simp [h]
theorem ix_of {l : List Int} {x : Int} (h : x ∈ l) : ix l x = (l.idxOf x : Int) := if_pos h
theorem idx_lt {l : List Int} {x : Int} (h : x ∈ l) : l.idxOf x < l.length := List.idxOf_lt_length_iff.2 h
theorem idx_get {l : List Int} {x : Int} (h : x ∈ l) : l[l.idxOf x]? = some x := by
  rw [List.getElem?_eq_getElem (idx_lt h), List.getElem_idxOf]
theorem idx_at {l : List Int} (hn : l.Nodup) {i : Nat} {x : Int} (h : l[i]? = some x) : l.idxOf x = i := by
  obtain ⟨hi, rfl⟩ := List.getElem?_eq_some_iff.1 h
  exact List.Nodup.idxOf_getElem hn i hi
theorem nodup_get {l : List Int} (hn : l.Nodup) {i j : Nat} {x : Int} (h : l[i]? = some x) (h' : l[j]? = some x) : i = j := (idx_at hn h).symm.trans (idx_at hn h')
end Go.Proofs.Ytnaidbmgibmnbaa

/-
  Steps, rounds, breaks: what the functions compute.
-/
namespace Go.Proofs.Ytnaidbmgibmnbaa
open Go Go.Lite

abbrev Sp := Int × Int × Bool
def eSp (s : Sp) : V := .agg [.int .i64 s.1, .int .i64 s.2.1, .bool s.2.2]
theorem eSp_flat (l : List Sp) : ((l.map eSp).all fun x => x.cells.all V.flat1) = true := flat_map fun _ => rfl
theorem idxK_sp {l : List Sp} {n : Nat} {x : Sp} {k : V → R} (h : l[n]? = some x) : idxK (l.map eSp) n k = k (.agg [.int .i64 x.1, .int .i64 x.2.1, .bool x.2.2]) := idxK_map h
theorem setV (l : List Int) (j : Nat) (x : Int) : (l.map iV).set j (.int .i64 x) = (l.set j x).map iV := by rw [List.map_set]; rfl
theorem appV (l : List Int) (x : Int) : l.map iV ++ [.int .i64 x] = (l ++ [x]).map iV := by simp [iV]
theorem appSp (l : List Sp) (a b : Int) (c : Bool) : l.map eSp ++ [.agg [.int .i64 a, .int .i64 b, .bool c]] = (l ++ [(a, b, c)]).map eSp := by simp [eSp]

/-- one leaf comes home -/
def rstep (hs : List Int) (i : Nat) (l : List Int) : List Int × List Sp :=
  match l[i]?, hs[i]? with
  | some a, some h => if a = h then (l, []) else
    if h ∈ l then ((l.set (l.idxOf h) a).set i h, [(a, h, true)]) else (l.set i h, [(a, h, false)])
  | _, _ => (l, [])
def rgo (hs : List Int) : Nat → Nat → List Int → List Int × List Sp
  | 0, _, l => (l, [])
  | n + 1, i, l => ((rgo hs n (i + 1) (rstep hs i l).1).1, (rstep hs i l).2 ++ (rgo hs n (i + 1) (rstep hs i l).1).2)
theorem rstep_len (hs : List Int) (i : Nat) (l : List Int) : (rstep hs i l).1.length = l.length ∧ (rstep hs i l).2.length ≤ 1 := by
  unfold rstep
  split
  · split
    · exact ⟨rfl, by simp⟩
    · split <;> simp
  · exact ⟨rfl, by simp⟩
theorem rgo_len (hs : List Int) : ∀ (n i : Nat) (l : List Int), (rgo hs n i l).1.length = l.length ∧ (rgo hs n i l).2.length ≤ n
  | 0, i, l => ⟨rfl, by simp [rgo]⟩
  | n + 1, i, l => by
    obtain ⟨h1, h2⟩ := rstep_len hs i l
    obtain ⟨h3, h4⟩ := rgo_len hs n (i + 1) (rstep hs i l).1
    simp only [rgo, List.length_append]
    exact ⟨h3.trans h1, by omega⟩

/-- a step is done -/
def app1 (l : List Int) (s : Sp) : Int × List Int :=
  if s.1 ∉ l then (7, []) else
  if s.2.2 then (if s.2.1 ∉ l then (7, []) else (0, (l.set (l.idxOf s.1) s.2.1).set (l.idxOf s.2.1) s.1)) else
  if pgB s.2.1 = false then (1, []) else
  if s.2.1 ∈ l then (8, []) else (0, l.set (l.idxOf s.1) s.2.1)
def appS : List Int → List Sp → Int × List Int
  | l, [] => (0, l)
  | l, s :: r => if (app1 l s).1 = 0 then appS (app1 l s).2 r else ((app1 l s).1, [])
theorem app1_len {l : List Int} {s : Sp} (h : (app1 l s).1 = 0) : (app1 l s).2.length = l.length := by
  unfold app1 at h ⊢
  split at h
  · cases h
  rename_i h1
  rw [if_neg h1]
  split at h
  · rename_i h2
    split at h
    · cases h
    · rename_i h3; rw [if_pos h2, if_neg h3]; simp
  · rename_i h2
    split at h
    · cases h
    rename_i h3
    split at h
    · cases h
    rename_i h4
    rw [if_neg h2, if_neg h3, if_neg h4]; simp
theorem swap_comm {l : List Int} {a b : Int} (ha : a ∈ l) (hb : b ∈ l) : (l.set (l.idxOf b) a).set (l.idxOf a) b = (l.set (l.idxOf a) b).set (l.idxOf b) a := by
  by_cases e : l.idxOf a = l.idxOf b
  · have h1 := idx_get ha
    have h2 := idx_get hb
    rw [e, h2] at h1
    cases h1
    rfl
  · rw [List.set_comm _ _ (Ne.symm e)]

/-- how often a leaf isn't behind the one ahead -/
def brk : List Int → Nat
  | a :: b :: r => (if W .i64 (a + 1) = b then 0 else 1) + brk (b :: r)
  | _ => 0
theorem brk_le : ∀ l : List Int, brk l ≤ l.length - 1
  | [] => by simp [brk]
  | [a] => by simp [brk]
  | a :: b :: r => by
    have := brk_le (b :: r)
    simp only [brk, List.length_cons] at this ⊢
    split <;> omega

/-! ### rounds -/

/-- where the leaf is that belongs to a place -/
def nxt (hs l : List Int) (i : Nat) : Nat := match hs[i]? with | some h => l.idxOf h | none => i
/-- one round, from a place on -/
def mark (σ : Nat → Nat) : Nat → List Bool → Nat → List Bool
  | 0, seen, _ => seen
  | n + 1, seen, i => if seen[i]? = some false then mark σ n (seen.set i true) (σ i) else seen
def cgo (σ : Nat → Nat) (m : Nat) : Nat → Nat → List Bool → Nat
  | 0, _, _ => 0
  | n + 1, i, seen => if seen[i]? = some false then cgo σ m n (i + 1) (mark σ m seen i) + 1 else cgo σ m n (i + 1) seen
def cycS (l : List Int) : Nat := cgo (nxt (srt l) l) l.length l.length 0 (List.replicate l.length false)
def cyc (l : List Int) : Int := if okB l then (cycS l : Int) else 0
theorem mark_len (σ : Nat → Nat) : ∀ (n : Nat) (seen : List Bool) (i : Nat), (mark σ n seen i).length = seen.length
  | 0, _, _ => rfl
  | n + 1, seen, i => by
    simp only [mark]
    split
    · rw [mark_len σ n]; simp
    · rfl
theorem mark_keep (σ : Nat → Nat) : ∀ (n : Nat) (seen : List Bool) (i j : Nat), seen[j]? = some true → (mark σ n seen i)[j]? = some true
  | 0, _, _, _, h => h
  | n + 1, seen, i, j, h => by
    simp only [mark]
    split
    · refine mark_keep σ n _ _ j ?_
      by_cases e : i = j
      · subst e
        rw [List.getElem?_set_self (List.getElem?_eq_some_iff.1 h).1]
      · rw [List.getElem?_set_ne e]; exact h
    · exact h
theorem mark_self (σ : Nat → Nat) (n : Nat) (seen : List Bool) (i : Nat) (h : seen[i]? = some false) : (mark σ (n + 1) seen i)[i]? = some true := by
  simp only [mark, if_pos h]
  exact mark_keep σ n _ _ i (List.getElem?_set_self (List.getElem?_eq_some_iff.1 h).1)
theorem cgo_le (σ : Nat → Nat) (m : Nat) : ∀ (n i : Nat) (seen : List Bool), cgo σ m n i seen ≤ n
  | 0, _, _ => Nat.le_refl _
  | n + 1, i, seen => by
    simp only [cgo]
    split
    · have := cgo_le σ m n (i + 1) (mark σ m seen i); omega
    · have := cgo_le σ m n (i + 1) seen; omega
theorem bools (x : Option Bool) {l : List Bool} {i : Nat} (hx : l[i]? = x) (hi : i < l.length) : x = some true ∨ x = some false := by
  rw [List.getElem?_eq_getElem hi] at hx
  cases h : l[i] <;> rw [h] at hx <;> simp [← hx]
end Go.Proofs.Ytnaidbmgibmnbaa
