/-
  The walk in the manner of continuations is the interpreter's: soundness.
-/
import Derived.Test.YtknapnnpmfhogaaLite20
namespace Go.Lite
open Go
structure IKOK (kc : KC) : Prop where
  ik : ∀ f as mem k r, kc.ik f as mem k = some r → ∃ v m, icW kc.cfg f as mem = some (v, m) ∧ k v m = some r
  ck : ∀ rd f as mem k r, kc.ck rd f as mem k = some r → ∃ v m, icC kc.cfg rd f as mem = some (v, m) ∧ k v m = some r := by exact fun _ _ _ _ _ _ h => nomatch h
section
variable {kc : KC} {P : Program} {r : Out}
theorem boundK_some {o : Option (Option V)} {d : Nat} {k : Nat → R} (h : boundK o d k = some r) : ∃ n, boundOf o d = some n ∧ k n = some r ∧ (o = none → n = d) := by
  unfold boundK at h
  split at h
  · exact ⟨d, rfl, h, fun _ => rfl⟩
  · rename_i n
    obtain ⟨h1, h2⟩ := gd_some h
    exact ⟨n.toNat, by simp only [boundOf]; rw [if_pos (of_decide_eq_true h1)], h2, fun e => by cases e⟩
  · cases h
theorem skipK_some {o : Option (Option V)} {b : Bool} {k : R} (h : skipK o b k = some r) (hn : o = none → b = true) : b = true ∧ k = some r := by
  unfold skipK at h
  split at h
  · exact ⟨hn rfl, h⟩
  · exact gd_some h
theorem elemsK_some {mem : List O} {x : V} {k : List V → R} (h : elemsK mem x k = some r) : ∃ l, elems mem x = some l ∧ k l = some r := by
  unfold elemsK at h
  split at h
  · split at h
    · rename_i hm
      obtain ⟨p, h⟩ := gd_some h
      exact ⟨_, by simp only [elems, hm, if_pos (of_decide_eq_true p)], h⟩
    · cases h
  · exact opt_some h
theorem sliceK_some {mem : List O} {t : TypeId} {x : V} {lo hi mx : Option (Option V)} {k : V → R} (h : sliceK P mem t x lo hi mx k = some r) : ∃ v, sliceA P mem t x lo hi mx = some v ∧ k v = some r := by
  unfold sliceK at h
  split at h
  · rename_i s hu
    obtain ⟨l, b1, h, z1⟩ := boundK_some h
    obtain ⟨m, b2, h, z2⟩ := boundK_some h
    obtain ⟨c1, h⟩ := skipK_some h (fun e => by simp [z1 e])
    obtain ⟨c2, h⟩ := skipK_some h (fun e => by simp [z2 e])
    refine ⟨_, ?_, h⟩
    simp only [sliceA, hu, b1, b2, Option.bind_some, Option.isSome_none, Bool.false_eq_true, if_false]
    rw [if_pos ⟨of_decide_eq_true c1, of_decide_eq_true c2⟩]
  · rename_i x d x' mx' e hu
    obtain ⟨xs, hx, h⟩ := elemsK_some h
    obtain ⟨p1, h⟩ := gd_some h
    obtain ⟨p2, h⟩ := gd_some h
    obtain ⟨l, b1, h, z1⟩ := boundK_some h
    obtain ⟨m, b2, h, z2⟩ := boundK_some h
    obtain ⟨c1, h⟩ := skipK_some h (fun e => by simp [z1 e])
    obtain ⟨c2, h⟩ := skipK_some h (fun e => by simp [z2 e])
    have hb : boundOf none xs.length = some xs.length := rfl
    have key : ∀ y, (match x with
        | .nilS => some .nilS
        | .sl xs => some (.sl ((xs.take m).drop l))
        | .own id =>
          match mem[id]? with
          | some (.row e' _ _) => if (none : Option (Option V)).isSome then none else if e' = e then some (if hi.isNone then .tail id l else .win id l (m - l)) else none
          | _ => none
        | .tail id off =>
          match mem[id]? with
          | some (.row e' _ _) => if (none : Option (Option V)).isSome then none else if e' = e then some (if hi.isNone then .tail id (off + l) else .win id (off + l) (m - l)) else none
          | _ => none
        | .win id off _ =>
          match mem[id]? with
          | some (.row e' _ _) => if (none : Option (Option V)).isSome then none else if e' = e then some (.win id (off + l) (m - l)) else none
          | _ => none
        | _ => none) = some y → sliceA P mem t x lo hi none = some y := by
      intro y hy
      simp only [sliceA, hu, hx, b1, b2, hb, Option.bind_some]
      rw [if_pos ⟨of_decide_eq_true p1, of_decide_eq_true c1, of_decide_eq_true c2, Nat.le_refl _, (by intro e; cases e), p2⟩]
      exact hy
    cases x <;> first | (cases h; done) | (simp [elems] at hx; done) | exact ⟨_, key _ rfl, h⟩ | skip
    all_goals
      simp only at h key
      split at h
      · rename_i e' els fz hm
        rcases cond_some h with ⟨c3, h⟩ | ⟨_, h⟩
        · have c3 : e' = e := by simpa using c3
          exact ⟨_, key _ (by simp only [hm, Option.isSome_none, Bool.false_eq_true, if_false, if_pos c3]), h⟩
        · cases h
      · cases h
  · exact opt_some h
theorem elemsSK_some {mem : List O} {x : V} {k : List V → R} (h : elemsSK mem x k = some r) : ∃ l, elemsS mem x = some l ∧ k l = some r := by
  by_cases hs : ∃ b, x = .str b
  · obtain ⟨b, rfl⟩ := hs
    exact ⟨_, rfl, h⟩
  · have e1 : elemsSK mem x k = elemsK mem x k := by cases x <;> first | rfl | exact (hs ⟨_, rfl⟩).elim
    have e2 : elemsS mem x = elems mem x := by cases x <;> first | rfl | exact (hs ⟨_, rfl⟩).elim
    rw [e1] at h
    rw [e2]
    exact elemsK_some h
theorem copyK_some {t : TypeId} {s x : V} {mem : List O} {k : V → List O → R} (h : copyK P t s x mem k = some r) : ∃ v m, copyM P mem t s x = some (v, m) ∧ k v m = some r := by
  unfold copyK at h
  obtain ⟨e, he, h⟩ := opt_some h
  obtain ⟨xs, hx, h⟩ := elemsSK_some h
  obtain ⟨p1, h⟩ := gd_some h
  obtain ⟨q, hq, h⟩ := opt_some h
  have hw : (xs.all fun y => y.cells.length == P.cellsOf e) = true := p1
  split at h
  · rename_i e' els fz hm
    obtain ⟨p3, h1⟩ := gd_some h
    obtain ⟨p4, h2⟩ := gd_some h1
    obtain ⟨p5, h3⟩ := gd_some h2
    have ee : e' = e := by simpa using p3
    subst ee
    have p4 := of_decide_eq_true p4
    have p5 := of_decide_eq_true p5
    refine ⟨_, _, ?_, h3⟩
    simp only [copyM, he, hx, hq, Option.bind_some, hm]
    rw [if_pos ⟨trivial, hw, p4, p5⟩]
  · cases h
theorem clearK_some {t : TypeId} {s : V} {mem : List O} {k : V → List O → R} (h : clearK P t s mem k = some r) : ∃ v m, clearM P mem t s = some (v, m) ∧ k v m = some r := by
  unfold clearK at h
  obtain ⟨e, he, h⟩ := opt_some h
  obtain ⟨q, hq, h⟩ := opt_some h
  split at h
  · rename_i e' els fz hm
    obtain ⟨p3, h1⟩ := gd_some h
    obtain ⟨p4, h2⟩ := gd_some h1
    obtain ⟨p5, h3⟩ := gd_some h2
    obtain ⟨p6, h4⟩ := gd_some h3
    obtain ⟨z, hz, h5⟩ := opt_some h4
    obtain ⟨z', hz', h6⟩ := opt_some h5
    clear h h1 h2 h3 h4 h5
    have ee : e' = e := by simpa using p3
    subst ee
    have p5 := of_decide_eq_true p5
    have p6 := of_decide_eq_true p6
    refine ⟨_, _, ?_, h6⟩
    have hr : roomy P e' 0 = true := by simp [roomy, p4]
    simp only [clearM, he, hq, Option.bind_some, hm]
    rw [if_pos ⟨trivial, hr, p5, p6⟩]
    simp only [hz, hz', Option.bind_some, Option.map_some]
  · cases h
theorem makeK_some {t : TypeId} {a b : V} {mem : List O} {k : V → List O → R} (h : makeK P t a b mem k = some r) : ∃ v m, makeM P mem t a b = some (v, m) ∧ k v m = some r := by
  unfold makeK at h
  obtain ⟨e, he, h⟩ := opt_some h
  split at h
  · obtain ⟨p1, h⟩ := gd_some h
    obtain ⟨p2, h⟩ := gd_some h
    obtain ⟨p3, h⟩ := gd_some h
    obtain ⟨p4, h⟩ := gd_some h
    obtain ⟨z, hz, h⟩ := opt_some h
    obtain ⟨z', hz', h⟩ := opt_some h
    refine ⟨_, _, ?_, h⟩
    simp only [makeM, he, Option.bind_some]
    rw [if_pos ⟨of_decide_eq_true p1, of_decide_eq_true p2, by simp only [roomy, p3, p4, Bool.and_self]⟩]
    simp only [hz, Option.bind_some, hz', Option.map_some, newRow]
  · cases h
theorem convK_some {mem : List O} {s d : TypeId} {x : V} {k : V → R} (h : convK P mem s d x k = some r) : ∃ v, convA P mem s d x = some v ∧ k v = some r := by
  unfold convK at h
  split at h
  · rename_i e h1 h2
    obtain ⟨xs, h3, h⟩ := elemsK_some h
    obtain ⟨p1, h⟩ := gd_some h
    obtain ⟨ns, h4, h⟩ := opt_some h
    refine ⟨_, ?_, h⟩
    have ht : textOf P e xs = some (.str (ns.map fun n => UInt8.ofNat n.toNat)) := by
      unfold textOf
      split at p1
      · rename_i he
        simp only [he, h4, Option.map_some]
      · cases p1
    have key : ∀ x, elems mem x = some xs → convA P mem s d x = some (.str (ns.map fun n => UInt8.ofNat n.toNat)) := by
      intro x h3
      unfold convA
      rw [h1, h2]
      cases x <;> first | (cases h3; done) | (simp only [h3, Option.bind_some, ht])
    exact key _ h3
  · exact opt_some h
theorem appendK_some {t : TypeId} {s x : V} {mem : List O} {k : V → List O → R} (h : appendK P t s x mem k = some r) : ∃ v m, appendM P mem t s x = some (v, m) ∧ k v m = some r := by
  unfold appendK at h
  obtain ⟨e, he, h⟩ := opt_some h
  obtain ⟨xs, hx, h⟩ := elemsSK_some h
  obtain ⟨p1, h⟩ := gd_some h
  obtain ⟨p2, h⟩ := gd_some h
  have hw : (xs.all fun y => y.cells.length == P.cellsOf e) = true := p1
  split at h
  · obtain ⟨p3, h⟩ := gd_some h
    exact ⟨_, _, by simp only [appendM, he, hx, Option.bind_some, hw, if_true, roomy, p2, p3, Bool.and_self, newRow], h⟩
  · rename_i id
    split at h
    · rename_i e' els fz hm
      obtain ⟨p3, h⟩ := gd_some h
      obtain ⟨p4, h⟩ := gd_some h
      have ee : e' = e := by simpa using p3
      subst ee
      exact ⟨_, _, by simp only [appendM, he, hx, Option.bind_some, hw, if_true, hm, roomy, p2, p4, Bool.and_self, and_self, newRow], h⟩
    · cases h
  · split at h
    · rename_i e' els fz hm
      obtain ⟨p3, h⟩ := gd_some h
      obtain ⟨p5, h⟩ := gd_some h
      obtain ⟨p6, h⟩ := gd_some h
      have ee : e' = e := by simpa using p3
      subst ee
      simp only [Bool.or_eq_true, Nat.beq_eq, Nat.blt_eq] at p5
      exact ⟨_, _, by simp only [appendM, he, hx, Option.bind_some, hw, if_true, hm, roomy, p2, p5, p6, Bool.and_self, and_self, newRow], h⟩
    · cases h
  · split at h
    · rename_i e' els fz hm
      obtain ⟨p3, h1⟩ := gd_some h
      obtain ⟨p5, h2⟩ := gd_some h1
      obtain ⟨p6, h3⟩ := gd_some h2
      obtain ⟨p7, h4⟩ := gd_some h3
      clear h h1 h2 h3
      have ee : e' = e := by simpa using p3
      subst ee
      have p5 := Nat.eq_of_beq_eq_true p5
      subst p5
      have p6 := of_decide_eq_true p6
      exact ⟨_, _, by simp only [appendM, he, hx, Option.bind_some, hw, if_true, hm, roomy, p2, p6, p7, Bool.and_self, and_self, newRow], h4⟩
    · cases h
  · obtain ⟨p3, h1⟩ := gd_some h
    obtain ⟨p5, h2⟩ := gd_some h1
    obtain ⟨p6, h3⟩ := gd_some h2
    clear h h1 h2
    rw [beq_iff_eq] at p3
    subst p3
    simp only [wfl] at p6
    exact ⟨_, _, by simp only [appendM, he, hx, Option.bind_some, hw, if_true, roomy, p2, p5, p6, Bool.and_self, and_self], h3⟩
  · cases h
theorem indexAddrK_some {mem : List O} {t : TypeId} {x i : V} {k : V → List O → R} (h : indexAddrK P mem t x i k = some r) : ∃ v, indexAddrA P mem t x i = some v ∧ k v mem = some r := by
  unfold indexAddrK at h
  split at h
  · rename_i e ik n hu
    obtain ⟨p0, h⟩ := gd_some h
    have p0 := of_decide_eq_true p0
    split at h
    · obtain ⟨y, hy, h⟩ := idxK_some h
      have h := tyK_some h
      obtain ⟨p1, h⟩ := gd_some h
      have p1 : y.cells.length = P.cellsOf e := by simpa using p1
      exact ⟨_, by simp only [indexAddrA, hu, if_pos p0, hy, Option.bind_some, if_pos p1], h⟩
    · split at h
      · rename_i id _ e' els fz hm
        obtain ⟨p1, h⟩ := gd_some h
        obtain ⟨p2, h⟩ := gd_some h
        have p1 : e' = e := by simpa using p1
        exact ⟨_, by simp only [indexAddrA, hu, if_pos p0, hm, if_pos (And.intro p1 (of_decide_eq_true p2))], h⟩
      · cases h
    · split at h
      · rename_i id off len _ e' els fz hm
        obtain ⟨p1, h⟩ := gd_some h
        obtain ⟨p2, h⟩ := gd_some h
        obtain ⟨p3, h⟩ := gd_some h
        have p1 : e' = e := by simpa using p1
        exact ⟨_, by simp only [indexAddrA, hu, if_pos p0, hm, if_pos (And.intro p1 (And.intro (of_decide_eq_true p2) (of_decide_eq_true p3)))], h⟩
      · cases h
    · split at h
      · rename_i id off _ e' els fz hm
        obtain ⟨p1, h⟩ := gd_some h
        obtain ⟨p2, h⟩ := gd_some h
        have p1 : e' = e := by simpa using p1
        exact ⟨_, by simp only [indexAddrA, hu, if_pos p0, hm, if_pos (And.intro p1 (of_decide_eq_true p2))], h⟩
      · cases h
    · cases h
  · rename_i len e ik n hu
    obtain ⟨p0, h⟩ := gd_some h
    obtain ⟨p1, h⟩ := gd_some h
    obtain ⟨p2, h⟩ := gd_some h
    have hc := And.intro (of_decide_eq_true p0) (And.intro (of_decide_eq_true p1) (of_decide_eq_true p2))
    split at h
    · exact ⟨_, by simp only [indexAddrA, hu, if_pos hc], h⟩
    · exact ⟨_, by simp only [indexAddrA, hu, if_pos hc], h⟩
    · cases h
  · exact opt_some h
theorem loadM_flat {mem : List O} {t : TypeId} {p c : V} {cs : List V} {off : Nat} (hl : look mem p = some (.agg cs, off)) (h1 : P.cellsOf t = 1) (hd : flatD (P.underlying t) = true) (hc : cs[off]? = some c) : loadM P mem t p = some c := by
  unfold loadM
  obtain ⟨hlt, hcc⟩ := List.getElem?_eq_some_iff.1 hc
  have e1 : (cs.drop off).take 1 = [c] := by
    rw [List.drop_eq_getElem_cons hlt, List.take_succ_cons, List.take_zero, hcc]
  simp only [hl, Option.bind_some, V.cells, h1, e1, List.length_singleton, if_true]
  unfold mkV
  cases hu : P.underlying t with
  | none => rw [hu] at hd; cases hd
  | some d => rw [hu] at hd; cases d <;> first | (cases hd; done) | rfl
theorem loadM_row {mem : List O} {t : TypeId} {id i off : Nat} {e : TypeId} {els : List V} {fz : Nat} {x v : V} (hm : mem[id]? = some (.row e els fz)) (hx : els[i]? = some x)
    (hl : (((x.cells.drop off).take (P.cellsOf t)).length == P.cellsOf t) = true) (hv : mkV P t ((x.cells.drop off).take (P.cellsOf t)) = some v) : loadM P mem t (.ptr id i off) = some v := by
  unfold loadM
  simp only [look, hm, hx, Option.map_some, Option.bind_some]
  rw [if_pos (by simpa using hl)]
  exact hv
theorem loadK_some {mem : List O} {t : TypeId} {p : V} {k : V → R} (h : loadK P mem t p k = some r) : ∃ v, loadM P mem t p = some v ∧ k v = some r := by
  unfold loadK at h
  split at h
  · split at h
    · rename_i hm
      obtain ⟨x, hx, h⟩ := idxK_some h
      have h := tyK_some h
      rcases cond_some h with ⟨hl, h⟩ | ⟨_, h⟩
      · obtain ⟨v, hv, h⟩ := opt_some h
        exact ⟨v, loadM_row hm hx hl hv, h⟩
      · cases h
    · rename_i hm
      rcases cond_some h with ⟨c1, h⟩ | ⟨_, h⟩
      · obtain ⟨p1, h1⟩ := gd_some h
        obtain ⟨c, hc, h2⟩ := idxK_some h1
        have h3 := leafK_some h2
        clear h h1 h2
        simp only [Bool.and_eq_true, beq_iff_eq] at c1
        have p1 := Nat.eq_of_beq_eq_true p1
        subst p1
        exact ⟨c, loadM_flat (by simp only [look, hm, if_true]) c1.1 c1.2 hc, h3⟩
      · exact opt_some h
    · exact opt_some h
  · rcases cond_some h with ⟨c1, h⟩ | ⟨_, h⟩
    · obtain ⟨c, hc, h⟩ := idxK_some h
      have h := leafK_some h
      simp only [Bool.and_eq_true, beq_iff_eq] at c1
      exact ⟨c, loadM_flat rfl c1.1 c1.2 hc, h⟩
    · exact opt_some h
  · obtain ⟨r', hr, h⟩ := opt_some h
    obtain ⟨x, hx, h⟩ := idxK_some h
    have h := tyK_some h
    rcases cond_some h with ⟨hl, h⟩ | ⟨_, h⟩
    · obtain ⟨v, hv, h⟩ := opt_some h
      refine ⟨v, ?_, h⟩
      unfold loadM
      simp only [look, hr, hx, Option.map_some, Option.bind_some]
      rw [if_pos (by simpa using hl)]
      exact hv
    · cases h
  · exact opt_some h
theorem storeK_some {mem : List O} {t : TypeId} {p v : V} {k : List O → R} (h : storeK P mem t p v k = some r) : ∃ m, storeM P mem t p v = some m ∧ k m = some r := by
  unfold storeK at h
  split at h
  · split at h
    · rename_i hm
      obtain ⟨p1, h⟩ := gd_some h
      obtain ⟨p2, h⟩ := gd_some h
      obtain ⟨x, hx, h⟩ := idxK_some h
      have h := tyK_some h
      obtain ⟨vs, hvs, h⟩ := opt_some h
      obtain ⟨y, hy, h⟩ := opt_some h
      refine ⟨_, ?_, h⟩
      unfold storeM
      rw [if_pos (of_decide_eq_true p1)]
      simp only [hm]
      rw [if_pos (of_decide_eq_true p2)]
      simp only [hx, hvs, hy, Option.bind_some, Option.map_some]
    · exact opt_some h
  · obtain ⟨p1, h⟩ := gd_some h
    obtain ⟨r', hr, h⟩ := opt_some h
    obtain ⟨x, hx, h⟩ := idxK_some h
    have h := tyK_some h
    obtain ⟨vs, hvs, h⟩ := opt_some h
    obtain ⟨y, hy, h⟩ := opt_some h
    refine ⟨_, ?_, h⟩
    unfold storeM
    rw [if_pos (of_decide_eq_true p1)]
    simp only [hr, hx, hvs, hy, Option.bind_some, Option.map_some]
  · exact opt_some h
theorem mapAtK_some {mem : List O} {m : V} {k : List (V × V) → R} (h : mapAtK mem m k = some r) : ∃ es, mapAt mem m = some es ∧ k es = some r := by
  unfold mapAtK at h
  split at h
  · split at h
    · rename_i es hm; exact ⟨es, by simp only [mapAt, hm], h⟩
    · cases h
  · obtain ⟨r', hr, h⟩ := opt_some h
    obtain ⟨es, hx, h⟩ := idxK_some h
    exact ⟨es, by simp only [mapAt, hr, hx, Option.bind_some], h⟩
  · cases h
theorem indexK_some {t : TypeId} {x i : V} {k : V → R} (h : indexK P t x i k = some r) : ∃ v, indexA P t x i = some v ∧ k v = some r := by
  unfold indexK at h
  split at h
  · rename_i hu
    obtain ⟨p0, h⟩ := gd_some h
    obtain ⟨b, hb, h⟩ := idxK_some h
    exact ⟨_, by simp only [indexA, hu, if_pos (of_decide_eq_true p0), hb, Option.map_some], h⟩
  · rename_i len e cs ik n hu
    obtain ⟨p0, h⟩ := gd_some h
    obtain ⟨p1, h⟩ := gd_some h
    have hcond := And.intro (of_decide_eq_true p0) (of_decide_eq_true p1)
    rcases cond_some h with ⟨c1, h⟩ | ⟨_, h⟩
    · obtain ⟨c, hc, h⟩ := idxK_some h
      have h := leafK_some h
      simp only [Bool.and_eq_true, beq_iff_eq] at c1
      refine ⟨c, ?_, h⟩
      simp only [indexA, hu, if_pos hcond, partA, c1.1, Nat.mul_one]
      obtain ⟨hlt, hcc⟩ := List.getElem?_eq_some_iff.1 hc
      have e1 : (cs.drop n.toNat).take 1 = [c] := by
        rw [List.drop_eq_getElem_cons hlt, List.take_succ_cons, List.take_zero, hcc]
      rw [e1]
      simp only [List.length_singleton, if_true]
      have hd := c1.2
      unfold mkV
      cases hue : P.underlying e with
      | none => rw [hue] at hd; cases hd
      | some d =>
        rw [hue] at hd
        cases d <;> first | (cases hd; done) | rfl
    · obtain ⟨v, hv, h⟩ := opt_some h
      exact ⟨v, by simp only [indexA, hu, if_pos hcond, hv], h⟩
  · exact opt_some h
theorem binK_some {op : BinOp} {t : TypeId} {x y : V} {k : V → R} (h : binK P op t x y k = some r) : ∃ v, binA P op t x y = some v ∧ k v = some r := by
  unfold binK at h
  split at h
  · obtain ⟨p1, h1⟩ := gd_some h
    obtain ⟨p2, h2⟩ := gd_some h1
    have p1 := eq_of_beq p1
    subst p1
    rw [Bool.not_eq_true'] at p2
    exact ⟨_, by simp only [binA, nilish, Bool.false_eq_true, if_false, binB, if_true, arith, if_neg (of_decide_eq_false p2)], h2⟩
  · obtain ⟨p1, h1⟩ := gd_some h
    obtain ⟨p2, h2⟩ := gd_some h1
    have p1 := eq_of_beq p1
    subst p1
    rw [Bool.not_eq_true'] at p2
    exact ⟨_, by simp only [binA, nilish, Bool.false_eq_true, if_false, binB, if_true, arith, if_neg (of_decide_eq_false p2)], h2⟩
  · obtain ⟨p2, h⟩ := gd_some h
    rw [Bool.not_eq_true'] at p2
    exact ⟨_, by simp only [binA, nilish, Bool.false_eq_true, if_false, binB, if_neg (of_decide_eq_false p2)], h⟩
  · obtain ⟨p2, h⟩ := gd_some h
    rw [Bool.not_eq_true'] at p2
    exact ⟨_, by simp only [binA, nilish, Bool.false_eq_true, if_false, binB, if_neg (of_decide_eq_false p2)], h⟩
  · obtain ⟨p2, h⟩ := gd_some h
    exact ⟨_, by simp only [binA, nilish, Bool.false_eq_true, if_false, binB, stringA, if_pos (of_decide_eq_true p2)], h⟩
  · exact opt_some h
theorem mapK_some {α β : Type} {f : α → (β → R) → R} {g : α → Option β} (hf : ∀ x k, f x k = some r → ∃ y, g x = some y ∧ k y = some r) : ∀ {l : List α} {k : List β → R}, mapK f l k = some r → ∃ ys, mapO g l = some ys ∧ k ys = some r := by
  intro l
  induction l with
  | nil => intro k h; exact ⟨[], rfl, h⟩
  | cons x l ih =>
    intro k h
    obtain ⟨y, h1, h⟩ := hf _ _ h
    obtain ⟨ys, h2, h⟩ := ih h
    exact ⟨y :: ys, by simp only [mapO, h1, h2, Option.bind_some, Option.map_some], h⟩
theorem snap1K_some {mem : List O} {v : V} {k : V → R} (h : snap1K mem v k = some r) : ∃ y, snap1 mem v = some y ∧ k y = some r := by
  unfold snap1K at h
  split at h
  · obtain ⟨l, h1, h⟩ := elemsK_some h
    exact ⟨_, by simp only [snap1, h1, Option.map_some], h⟩
  · exact opt_some h
theorem snap2K_some {mem : List O} {v : V} {k : V → R} (h : snap2K mem v k = some r) : ∃ y, snap2 mem v = some y ∧ k y = some r := by
  unfold snap2K at h
  split at h
  · obtain ⟨l, h1, h⟩ := mapK_some (fun x k h => snap1K_some h) h
    exact ⟨_, by simp only [snap2, h1, Option.map_some], h⟩
  · obtain ⟨⟨x, off⟩, h1, h⟩ := opt_some h
    simp only at h
    split at h
    · obtain ⟨l, h2, h⟩ := mapK_some (fun x k h => snap1K_some h) h
      exact ⟨_, by simp only [snap2, h1, Option.bind_some, h2, Option.map_some], h⟩
    · rename_i hx
      obtain ⟨y, h2, h⟩ := snap1K_some h
      refine ⟨_, ?_, h⟩
      simp only [snap2, h1, Option.bind_some]
      cases x <;> first | (exact (hx _ rfl).elim) | simp only [h2, Option.map_some]
  · rename_i h1 h2
    obtain ⟨y, h3, h⟩ := snap1K_some h
    refine ⟨y, ?_, h⟩
    cases v <;> first | exact (h1 _ rfl).elim | exact (h2 _ _ _ rfl).elim | exact h3
theorem snap3K_some {mem : List O} {v : V} {k : V → R} (h : snap3K mem v k = some r) : ∃ y, snap3 mem v = some y ∧ k y = some r := by
  unfold snap3K at h
  split at h
  · obtain ⟨l, h1, h⟩ := mapK_some (fun x k h => snap2K_some h) h
    exact ⟨_, by simp only [snap3, h1, Option.map_some], h⟩
  · rename_i h1
    obtain ⟨y, h3, h⟩ := snap2K_some h
    refine ⟨y, ?_, h⟩
    cases v <;> first | exact (h1 _ _ rfl).elim | exact h3
theorem pvK_some {f : FuncId} {as : List V} {k : V → R} (h : pvK kc f as k = some r) : ∃ x, pcW kc.cfg f as = some x ∧ k x = some r := by
  unfold pvK at h
  split at h
  · rename_i g hg
    split at h
    · rename_i x hx
      exact ⟨x, kc.pvok _ _ _ _ hg hx, h⟩
    · cases h
  · exact pcK_some h
theorem callK_some (hik : IKOK kc) {dr : Bool} {f : FuncId} {ty : TypeId} {args : List V} {mem : List O} {k : V → List O → R} (h : callK kc dr f ty args mem k = some r) :
    ∃ v m, callA kc.cfg (callW kc.cfg) dr f args mem = some (v, m) ∧ k v m = some r := by
  unfold callK at h
  obtain ⟨p1, h⟩ := gd_some h
  unfold callA
  rw [p1]
  simp only [Bool.not_true, Bool.false_eq_true, if_false]
  rcases cond_some h with ⟨c1, h⟩ | ⟨c1, h⟩
  · rw [c1]
    simp only [if_true]
    obtain ⟨as, ha, h⟩ := mapK_some (fun x k h => snap3K_some h) h
    obtain ⟨v, hv, h⟩ := pvK_some h
    have h := resT_some h
    simp only [ha, Option.bind_some]
    have hv' : (callW kc.cfg).pc f as = some v := hv
    rw [hv']
    simp only [Option.bind_some]
    rcases cond_some h with ⟨c2, h⟩ | ⟨c2, h⟩
    · rw [c2]
      simp only [if_true]
      rcases cond_some h with ⟨_, h⟩ | ⟨c3, h⟩
      · cases h
      · rw [c3]
        simp only [Bool.false_eq_true, if_false]
        exact ⟨_, _, rfl, h⟩
    · rw [c2]
      simp only [Bool.false_eq_true, if_false]
      exact ⟨_, _, rfl, h⟩
  · rw [c1]
    simp only [Bool.false_eq_true, if_false]
    rcases cond_some h with ⟨_, h⟩ | ⟨c2, h⟩
    · cases h
    · rw [c2]
      simp only [Bool.false_eq_true, if_false]
      split at h
      · rename_i hcf
        rw [hcf]
        exact hik.ik _ _ _ _ _ h
      · rename_i rd hcf
        rw [hcf]
        obtain ⟨v, m, h1, h⟩ := hik.ck _ _ _ _ _ _ h
        unfold icC at h1
        simp only [Option.map_eq_some_iff] at h1
        obtain ⟨r0, h1, h2⟩ := h1
        refine ⟨_, _, ?_, h⟩
        simp only [canA]
        rw [show (callW kc.cfg).ic _ _ _ = _ from h1, Option.map_some, h2]
theorem opK_some (hik : IKOK kc) {dr : Bool} {o : OpA} {env : List V} {mem : List O} {k : V → List O → R} (h : opK kc dr o env mem k = some r) :
    ∃ v m, opA kc.cfg (callW kc.cfg) dr o env mem = some (v, m) ∧ k v m = some r := by
  rcases o with ⟨dst, op, ty, gu⟩
  have dflt : ∀ q : Option (V × List O), (opt q fun r => k r.1 r.2) = some r → ∃ v m, q = some (v, m) ∧ k v m = some r := by
    intro q hq
    obtain ⟨⟨v, m⟩, h1, h2⟩ := opt_some hq
    exact ⟨v, m, h1, h2⟩
  cases op
  case pick c a b =>
    simp only [opK] at h
    obtain ⟨c', h1, h⟩ := opt_some h
    obtain ⟨a', h2, h⟩ := opt_some h
    obtain ⟨b', h3, h⟩ := opt_some h
    obtain ⟨t, rfl, h'⟩ := kB_some h
    simp only [opA, h1, h2, h3, Option.bind_some]
    rcases cond_some h' with ⟨rfl, h'⟩ | ⟨rfl, h'⟩
    · exact ⟨_, _, rfl, h'⟩
    · exact ⟨_, _, rfl, h'⟩
  case load t a =>
    simp only [opK] at h
    obtain ⟨c', h1, h⟩ := opt_some h
    rcases cond_some h with ⟨_, h⟩ | ⟨hb, h⟩
    · cases h
    obtain ⟨v, h2, h⟩ := loadK_some h
    exact ⟨_, _, by simp only [opA, h1, h2, hb, Option.bind_some, Option.map_some, Bool.false_eq_true, if_false], h⟩
  case nilCheck x =>
    simp only [opK] at h
    obtain ⟨c', h1, h⟩ := opt_some h
    rcases cond_some h with ⟨hs, h⟩ | ⟨_, h⟩
    · exact ⟨_, _, by simp only [opA, h1, hs, Option.bind_some, if_true], h⟩
    · cases h
  case store t a x =>
    simp only [opK] at h
    obtain ⟨c', h1, h⟩ := opt_some h
    obtain ⟨x', h3, h⟩ := opt_some h
    rcases cond_some h with ⟨_, h⟩ | ⟨hb, h⟩
    · cases h
    obtain ⟨v, h2, h⟩ := storeK_some h
    exact ⟨_, _, by simp only [opA, h1, h2, h3, hb, Bool.false_eq_true, if_false, Option.bind_some, Option.map_some], h⟩
  case binOp op t x y yt =>
    simp only [opK] at h
    obtain ⟨c', h1, h⟩ := opt_some h
    obtain ⟨x', h3, h⟩ := opt_some h
    obtain ⟨v, h2, h⟩ := binK_some h
    exact ⟨_, _, by simp only [opA, h1, h2, h3, Option.bind_some, Option.map_some], h⟩
  case slice t x lo hi mx =>
    simp only [opK] at h
    obtain ⟨c', h1, h⟩ := opt_some h
    rcases cond_some h with ⟨_, h⟩ | ⟨hbx, h⟩
    · cases h
    obtain ⟨v, h2, h⟩ := sliceK_some h
    exact ⟨_, _, by simp only [opA, h1, h2, hbx, Bool.false_eq_true, if_false, Option.bind_some, Option.map_some], h⟩
  case indexAddr t x i =>
    simp only [opK] at h
    obtain ⟨c', h1, h⟩ := opt_some h
    obtain ⟨x', h3, h⟩ := opt_some h
    rcases cond_some h with ⟨_, h⟩ | ⟨hbx, h⟩
    · cases h
    obtain ⟨v, h2, h⟩ := indexAddrK_some h
    exact ⟨_, _, by simp only [opA, h1, h2, h3, hbx, Bool.false_eq_true, if_false, Option.bind_some, Option.map_some], h⟩
  case makeSlice t n c =>
    simp only [opK] at h
    obtain ⟨a, h1, h⟩ := opt_some h
    obtain ⟨b, h3, h⟩ := opt_some h
    obtain ⟨v, m, h2, h⟩ := makeK_some h
    exact ⟨v, m, by simp only [opA, h1, h2, h3, Option.bind_some], h⟩
  case convert st d x =>
    simp only [opK] at h
    obtain ⟨a, h1, h⟩ := opt_some h
    obtain ⟨v, h2, h⟩ := convK_some h
    refine ⟨v, mem, ?_, h⟩
    simp only [opA, h1, Option.bind_some]
    cases dr
    · rw [show (if false = true then [] else mem) = mem from rfl, show convA kc.cfg.P mem st d a = some v from h2]; rfl
    · rw [show (if true = true then [] else mem) = ([] : List O) from rfl, show convA kc.cfg.P [] st d a = some v from h2]; rfl
  case index t x i =>
    simp only [opK] at h
    obtain ⟨c', h1, h⟩ := opt_some h
    obtain ⟨x', h3, h⟩ := opt_some h
    obtain ⟨v, h2, h⟩ := indexK_some h
    exact ⟨_, _, by simp only [opA, h1, h2, h3, Option.bind_some, Option.map_some], h⟩
  case lookup t m key ok =>
    simp only [opK] at h
    obtain ⟨m', h1, h⟩ := opt_some h
    obtain ⟨key', h2, h⟩ := opt_some h
    obtain ⟨es, hm, h⟩ := mapAtK_some h
    obtain ⟨p1, h⟩ := gd_some h
    obtain ⟨e, he, h⟩ := opt_some h
    obtain ⟨z, hz, h⟩ := opt_some h
    obtain ⟨q, hq, h⟩ := mfK_some h
    rcases h with ⟨rfl, h⟩ | ⟨v, rfl, h⟩
    · exact ⟨_, _, by simp only [opA, h1, h2, hm, p1, if_true, he, hz, hq, Option.bind_some, Option.map_some, Option.getD_none, Option.isSome_none], h⟩
    · have h := leafK_some h
      exact ⟨_, _, by simp only [opA, h1, h2, hm, p1, if_true, he, hz, hq, Option.bind_some, Option.map_some, Option.getD_some, Option.isSome_some], h⟩
  case mapUpdate t m key x =>
    simp only [opK] at h
    obtain ⟨m', h1, h⟩ := opt_some h
    obtain ⟨key', h2, h⟩ := opt_some h
    obtain ⟨x', h3, h⟩ := opt_some h
    obtain ⟨es, hm, h⟩ := mapAtK_some h
    obtain ⟨p1, h⟩ := gd_some h
    obtain ⟨p2, h⟩ := gd_some h
    obtain ⟨e, he, h⟩ := opt_some h
    exact ⟨_, _, by simp only [opA, h1, h2, h3, hm, p1, p2, and_self, if_true, he, Option.bind_some, Option.map_some], h⟩
  case call c =>
    obtain ⟨callee, args, ats⟩ := c
    cases callee
    case value f =>
      simp only [opK] at h
      obtain ⟨fv, h1, h⟩ := opt_some h
      obtain ⟨as, h2, h⟩ := opt_some h
      cases fv <;> simp only at h <;> first | (cases h; done) | skip
      rcases cond_some h with ⟨hb, h⟩ | ⟨hb, h⟩
      · rcases cond_some h with ⟨hb2, h⟩ | ⟨_, h⟩
        · rcases cond_some h with ⟨hna, h⟩ | ⟨_, h⟩
          rotate_left
          · cases h
          obtain ⟨v, m, h3, h⟩ := hik.ik _ _ _ _ _ h
          obtain ⟨h4, h⟩ := gd_some h
          refine ⟨_, _, ?_, h⟩
          simp only [opA, h1, h2, hb, hb2, Option.bind_some, if_true]
          unfold framedA
          rw [if_neg (by rw [hna]; simp), show (callW kc.cfg).ic _ _ _ = _ from h3, Option.bind_some, if_pos (Nat.le_of_ble_eq_true h4)]
        · cases h
      obtain ⟨v, m, h3, h⟩ := callK_some hik h
      exact ⟨v, m, by simp only [opA, h1, h2, hb, Option.bind_some, Bool.false_eq_true, if_false, h3], h⟩
    case builtin b =>
      cases b
      case len =>
        simp only [opK] at h
        obtain ⟨as, h2, h⟩ := opt_some h
        rcases cond_some h with ⟨_, h0⟩ | ⟨hbx, h0⟩
        · cases h0
        clear h
        revert h0
        intro h
        split at h
        · rename_i t ts id off len rest hat
          rcases cond_some h with ⟨p1, h⟩ | ⟨_, h⟩
          · obtain ⟨l, h3, h⟩ := elemsK_some h
            split at p1
            · rename_i e hu
              refine ⟨_, _, ?_, h⟩
              simp only [opA, h2, hbx, Bool.false_eq_true, if_false, Option.bind_some, builtinA, hat, lenB, lenA, hu, h3, Option.map_some]
            · cases p1
          · cases h
        · rename_i t ts t' i rest hat
          rcases cond_some h with ⟨p1, h⟩ | ⟨_, h⟩
          · obtain ⟨es, h3, h⟩ := mapAtK_some h
            split at p1
            · rename_i e hu
              refine ⟨_, _, ?_, h⟩
              simp only [opA, h2, hbx, Bool.false_eq_true, if_false, Option.bind_some, builtinA, hat, lenB, lenA, hu, h3, Option.map_some]
            · cases p1
          · cases h
        · obtain ⟨⟨v, m⟩, h3, h⟩ := opt_some h
          exact ⟨v, m, h3, h⟩
      case append =>
        simp only [opK] at h
        obtain ⟨as, h2, h⟩ := opt_some h
        rcases cond_some h with ⟨_, h0⟩ | ⟨hbx, h0⟩
        · cases h0
        clear h
        revert h0
        intro h
        split at h
        · rename_i t t' s x hat
          obtain ⟨p1, h⟩ := gd_some h
          obtain ⟨v, m, h3, h⟩ := appendK_some h
          exact ⟨v, m, by simp only [opA, h2, hbx, Bool.false_eq_true, if_false, Option.bind_some, builtinA, hat, appendB, if_pos p1, h3], h⟩
        · cases h
      case copy =>
        simp only [opK] at h
        obtain ⟨as, h2, h⟩ := opt_some h
        rcases cond_some h with ⟨_, h0⟩ | ⟨hbx, h0⟩
        · cases h0
        clear h
        revert h0
        intro h
        split at h
        · rename_i t t' s x hat
          obtain ⟨p1, h⟩ := gd_some h
          obtain ⟨v, m, h3, h⟩ := copyK_some h
          exact ⟨v, m, by simp only [opA, h2, hbx, Bool.false_eq_true, if_false, Option.bind_some, builtinA, hat, copyB, if_pos p1, h3], h⟩
        · cases h
      case clear =>
        simp only [opK] at h
        obtain ⟨as, h2, h⟩ := opt_some h
        rcases cond_some h with ⟨_, h0⟩ | ⟨hbx, h0⟩
        · cases h0
        clear h
        revert h0
        intro h
        split at h
        · rename_i t s hat
          obtain ⟨v, m, h3, h⟩ := clearK_some h
          exact ⟨v, m, by simp only [opA, h2, hbx, Bool.false_eq_true, if_false, Option.bind_some, builtinA, hat, clearB, h3], h⟩
        · cases h
      case delete =>
        simp only [opK] at h
        obtain ⟨as, h2, h⟩ := opt_some h
        rcases cond_some h with ⟨_, h0⟩ | ⟨hbx, h0⟩
        · cases h0
        clear h
        revert h0
        intro h
        split at h
        · rename_i t ts m key hat
          obtain ⟨es, hm, h⟩ := mapAtK_some h
          obtain ⟨p1, h⟩ := gd_some h
          obtain ⟨e, he, h⟩ := opt_some h
          exact ⟨_, _, by simp only [opA, h2, hbx, Bool.false_eq_true, if_false, Option.bind_some, builtinA, hat, deleteB, hm, p1, if_true, he, Option.map_some], h⟩
        · cases h
      all_goals exact dflt _ h
    all_goals exact dflt _ h
  all_goals exact dflt _ h
theorem opXK_some (hik : IKOK kc) {dr : Bool} {o : OpA} {env : List V} {mem : List O} {k : V → List O → R} (h : opXK kc dr o env mem k = some r) :
    ∃ v m, opX kc.cfg (callW kc.cfg) dr o env mem = some (v, m) ∧ k v m = some r := by
  unfold opX
  rcases cond_some h with ⟨hx, h⟩ | ⟨hx, h⟩
  · obtain ⟨v, m, h1, h⟩ := opK_some hik h
    rw [if_pos hx, h1]
    cases m with
    | nil => exact ⟨v, mem, rfl, h⟩
    | cons _ _ =>
      obtain ⟨v2, h3, h⟩ := opt_some h
      exact ⟨v2, mem, by simp only [Option.bind_some, h3, Option.map_some], h⟩
  · obtain ⟨v, m, h1, h⟩ := opK_some hik h
    rw [if_neg (by rw [hx]; simp), h1]
    exact ⟨v, m, rfl, h⟩
theorem set_self' {α : Type} {l : List α} {i : Nat} {x : α} (h : l[i]? = some x) : l.set i x = l := by
  obtain ⟨hlt, rfl⟩ := List.getElem?_eq_some_iff.1 h
  exact List.set_getElem_self hlt
theorem opsK_some (hik : IKOK kc) {dr : Bool} : ∀ (l : List OpA) (env : List V) (mem : List O) (k : List V → List O → R), opsK kc dr l env mem k = some r →
    ∃ s, opsA kc.cfg (callW kc.cfg) dr l ⟨env, mem⟩ = some s ∧ k s.env s.mem = some r := by
  intro l
  induction l with
  | nil => intro env mem k h; exact ⟨_, rfl, h⟩
  | cons o l ih =>
    intro env mem k h
    simp only [opsK] at h
    split at h
    · rename_i hg
      obtain ⟨v, m, h1, h⟩ := opXK_some hik h
      obtain ⟨s, h2, h⟩ := ih _ _ _ h
      exact ⟨s, by simp only [opsA, hg, wantedA, Option.bind_some, if_true, h1, h2], h⟩
    · rename_i t want hg
      split at h
      · rename_i b hb
        rcases cond_some h with ⟨rfl, h⟩ | ⟨rfl, h⟩
        · rw [set_self' hb] at h
          cases want <;> simp only [cond_true, cond_false] at h
          rotate_left
          · obtain ⟨v, m, h1, h⟩ := opXK_some hik h
            obtain ⟨s, h2, h⟩ := ih _ _ _ h
            exact ⟨s, by simp only [opsA, hg, wantedA, hb, beq_self_eq_true, Option.bind_some, if_true, h1, h2], h⟩
          · obtain ⟨s, h2, h⟩ := ih _ _ _ h
            refine ⟨s, ?_, h⟩
            simp only [opsA, hg, wantedA, hb, Option.bind_some]
            exact h2
        · rw [set_self' hb] at h
          cases want <;> simp only [cond_true, cond_false] at h
          rotate_left
          · obtain ⟨s, h2, h⟩ := ih _ _ _ h
            refine ⟨s, ?_, h⟩
            simp only [opsA, hg, wantedA, hb, Option.bind_some]
            exact h2
          · obtain ⟨v, m, h1, h⟩ := opXK_some hik h
            obtain ⟨s, h2, h⟩ := ih _ _ _ h
            exact ⟨s, by simp only [opsA, hg, wantedA, hb, beq_self_eq_true, Option.bind_some, if_true, h1, h2], h⟩
      · rename_i hb
        obtain ⟨s, h2, h⟩ := ih _ _ _ h
        exact ⟨s, by simp only [opsA, hg, wantedA, hb, Option.bind_some, Bool.false_eq_true, if_false, h2], h⟩
      · cases h
end
end Go.Lite