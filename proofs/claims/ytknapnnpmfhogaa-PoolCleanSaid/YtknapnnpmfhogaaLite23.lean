/-
  What is used to read a graph: lists from a place on, numbers, guards.
-/
import Derived.Test.YtknapnnpmfhogaaLite22
namespace Go.Lite
open Go
theorem drop_cons {α : Type} {l r : List α} {k : Nat} {x : α} (h : l.drop k = x :: r) : l[k]? = some x ∧ l.drop (k + 1) = r ∧ k < l.length := by
  have hk : k < l.length := by
    rcases Nat.lt_or_ge k l.length with h1 | h1
    · exact h1
    · rw [List.drop_eq_nil_of_le h1] at h; cases h
  rw [List.drop_eq_getElem_cons hk] at h
  injection h with h1 h2
  exact ⟨by rw [List.getElem?_eq_getElem hk, h1], h2, hk⟩
theorem drop_nil {α : Type} {l : List α} {k : Nat} (h : l.drop k = []) : l.length ≤ k := List.drop_eq_nil_iff.1 h
@[simp] theorem cond_dec {α : Type} {p : Prop} [Decidable p] {a b : α} : (cond (decide p) a b) = if p then a else b := by
  by_cases h : p <;> simp [h]
@[simp] theorem gd_dec_true {p : Prop} [Decidable p] {k : R} : gd (decide p) k = if p then k else none := by
  by_cases h : p <;> simp [h, gd]
theorem gd_ite {b : Bool} {k : R} : gd b k = if b = true then k else none := by cases b <;> rfl
theorem cond_ite {α : Type} {b : Bool} {x y : α} : cond b x y = if b = true then x else y := by cases b <;> rfl
theorem idxK_map {α : Type} {l : List α} {f : α → V} {n : Nat} {x : α} {k : V → R} (h : l[n]? = some x) : idxK (l.map f) n k = k (f x) := by
  simp only [idxK, List.getElem?_map, h, Option.map_some]
theorem idxK_c {α : Type} {l : List α} {f : α → V} {n : Nat} {x : α} {k : V → R} (h : l[n]? = some x) : idxK (l.map f) ((n : Int)).toNat k = k (f x) := idxK_map h
theorem wfl_map {α : Type} {l : List α} {f : α → V} {c : Nat} (h : ∀ x, (f x).cells.length = c) : wfl c (l.map f) = true := by
  simp only [wfl, List.all_map, List.all_eq_true, Function.comp_apply, beq_iff_eq]
  exact fun x _ => h x
theorem flat_map {α : Type} {l : List α} {f : α → V} (h : ∀ x, (f x).cells.all V.flat1 = true) : ((l.map f).all fun x => x.cells.all V.flat1) = true := by
  simp only [List.all_map, List.all_eq_true, Function.comp_apply]
  exact fun x _ => by simpa using h x
theorem gd_ok {b : Bool} {k : R} (h : b = true) : gd b k = k := by rw [h]; rfl
theorem toNat_cast (n : Nat) : ((n : Int)).toNat = n := by omega
theorem min_len (n : Int) (m : Nat) (h : n = (m : Int)) : n.toNat = m := by omega
theorem W_add {a : Int} {b : Int} (h : -9223372036854775808 ≤ a + b ∧ a + b < 9223372036854775808) : W .i64 (a + b) = a + b := W_i64 h
theorem W_sub {a : Int} {b : Int} (h : -9223372036854775808 ≤ a - b ∧ a - b < 9223372036854775808) : W .i64 (a - b) = a - b := W_i64 h
theorem Go.up {kc : KC} {imp : Bool} {n0 : Nat} {fa : FA} {P : Nat → Out} {n : Nat} (h : ∀ k, k < n → Go kc imp n0 fa (P k) (P (k + 1))) : ∀ k, k ≤ n → Go kc imp n0 fa (P k) (P n) := by
  have : ∀ d k, k + d = n → Go kc imp n0 fa (P k) (P n) := by
    intro d
    induction d with
    | zero => intro k hk; have : k = n := by omega
              subst this; exact .refl _
    | succ d ih => intro k hk; exact (h k (by omega)).trans (ih (k + 1) (by omega))
  exact fun k hk => this (n - k) k (by omega)
end Go.Lite