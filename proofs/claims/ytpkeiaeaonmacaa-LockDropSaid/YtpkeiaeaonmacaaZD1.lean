/-
  A law of layer 9 (lock): whatever the input, it returns true and leaves its arguments as0 they were. No condition.
-/
import Derived.Test.YtpkeiaeaonmacaaZ6
import Derived.Test.YtpkeiaeaonmacaaRows
import Derived.WalkKit
import Derived.ProofKit
import Derived.OpenShut
import Derived.KernelRfl
import Derived.Handed
import Derived.JoinedOf
import Derived.JoinedCond
namespace Go.Proofs.Ytpkeiaeaonmacaa
open Go Go.Lite
set_option linter.unusedSimpArgs false
set_option linter.unusedVariables false
set_option linter.unnecessarySimpa false
set_option maxRecDepth 10000
theorem wI1 (m : Int) (h : 0 ≤ m ∧ m < 100) : W .i64 (m + 1) = m + 1 := W_i64 (by omega)
structure Op where
  kind : Int
  owner : Int
  name : Bs
  mode : Int
def opV (o : Op) : V := .agg [.int .i64 o.kind, .int .i64 o.owner, .str o.name, .int .i64 o.mode]
theorem dO (o : Op) (k : Int → Int → Bs → Int → R) : d27 (opV o) k = k o.kind o.owner o.name o.mode := rfl
def cutN (s : Bs) : Bs := s.take ((if 2 < (s.length : Int) then 2 else (s.length : Int)).toNat)
theorem cut_nm (s : Bs) : Nm (cutN s) := by
  unfold cutN Nm
  rw [List.length_take]
  split <;> omega
theorem cut_fold (s : Bs) : s.take ((if 2 < (s.length : Int) then 2 else (s.length : Int)).toNat) = cutN s := rfl
theorem gc1 (s : Bs) : decide (0 ≤ (if 2 < (s.length : Int) then 2 else (s.length : Int))) = true := decide_eq_true (by split <;> omega)
theorem gc2 (s : Bs) : decide ((if 2 < (s.length : Int) then 2 else (s.length : Int)).toNat ≤ s.length) = true := decide_eq_true (by split <;> omega)
theorem and7 (x : Int) : ∃ q : Int, (0 ≤ q ∧ q < 8) ∧ W .i64 (((BitVec.ofInt (IntKind.bits .i64) x &&& BitVec.ofInt (IntKind.bits .i64) 7).toNat : Int)) = q := by
  refine ⟨((BitVec.ofInt 64 x &&& BitVec.ofInt 64 7).toNat : Nat), ⟨by omega, ?_⟩, ?_⟩
  · rw [BitVec.toNat_and]
    have := Nat.lt_of_le_of_lt (@Nat.and_le_right (BitVec.ofInt 64 x).toNat (BitVec.ofInt 64 7).toNat) (show (BitVec.ofInt 64 7).toNat < 8 by decide)
    omega
  · change W .i64 (((BitVec.ofInt 64 x &&& BitVec.ofInt 64 7).toNat : Int)) = _
    have : (BitVec.ofInt 64 x &&& BitVec.ofInt 64 7).toNat < 8 := by
      rw [BitVec.toNat_and]
      exact Nat.lt_of_le_of_lt Nat.and_le_right (by decide)
    exact W_i64 (by omega)
theorem op_get {ops : List Op} {i : Nat} {o : Op} (h : ops[i]? = some o) (q : V → R) : idxK (ops.map opV) ((i : Int)).toNat q = q (opV o) := idxK_c h
noncomputable def playA (L : List Lk) (W : WL) (k : Int) (o : Int) (nm : Bs) (m : Int) : List Lk × WL :=
  if k = 0 then (askA L W o nm m).2 else if k = 1 then ((freeA L W o nm).2.1, (freeA L W o nm).2.2.1) else ((dropA L W o).1, (dropA L W o).2.1)
section
variable {els : List V} {ms : List (List (V × V))} {lk ws : List (V × V)} {ix : Bs → Nat} {L : List Lk} {W : WL} {b : Int} {n N : Nat} {nm : Bs} {e : Lk} {o : Int}
theorem Good.play (g : Good b n L W) (ho : o < b) (k : Int) (nm : Bs) (m : Int) : Good b (n + 1) (playA L W k o nm m).1 (playA L W k o nm m).2 := by
  unfold playA
  split
  · exact g.ask ho nm m
  · split
    · exact (Good.free g o nm).more (by omega)
    · exact (Good.drop g o).more (by omega)
theorem wait_none (g : Good b n L W) (h : waitA L W o = none) : getA W o = none := by
  cases hg : getA W o with
  | none => rfl
  | some n2 =>
    obtain ⟨e, m, h1, h2⟩ := g.wok o n2 hg
    unfold waitA at h
    rw [hg, Option.bind_some, h1, Option.bind_some, h2] at h
    cases h
theorem wait_some {p : Bs × Int} (h : waitA L W o = some p) : getA W o = some p.1 ∧ ∃ e, getL L p.1 = some e ∧ getA e.q o = some p.2 := by
  unfold waitA at h
  simp only [Option.bind_eq_some_iff, Option.map_eq_some_iff] at h
  obtain ⟨n2, h1, e, h2, m, h3, rfl⟩ := h
  exact ⟨h1, e, h2, h3⟩
theorem wait_of (h : getA W o = none) : waitA L W o = none := by unfold waitA; rw [h]; rfl
theorem mode_get (g : Good b n L W) (h : modeA L o nm ≠ 0) : ∃ e, getL L nm = some e ∧ getA e.held o = some (modeA L o nm) ∧ 1 ≤ modeA L o nm ∧ modeA L o nm ≤ 6 := by
  obtain ⟨e, he⟩ := modeA_some h
  refine ⟨e, he, ?_⟩
  unfold modeA at h ⊢
  rw [he, Option.bind_some] at h ⊢
  cases hg : getA e.held o with
  | none => rw [hg] at h; exact absurd rfl h
  | some m =>
    rw [Option.getD_some]
    exact ⟨rfl, g.hm e (getL_some he).1 _ (getA_mem hg)⟩
theorem mode_eq (he : getL L nm = some e) : modeA L o nm = (getA e.held o).getD 0 := by unfold modeA; rw [he]; rfl
theorem ask_again (g : Good b n L W) (ho : 0 ≤ o) {m : Int} (hm : 1 ≤ m ∧ m ≤ 6) (h0 : modeA L o nm ≠ 0) (hw : getA W o = none) (hc : coversB (modeA L o nm) m = true) : askA L W o nm m = (0, L, W) := by
  obtain ⟨e, he, h1, h2⟩ := mode_get g h0
  unfold askA
  rw [if_neg (by omega), if_neg (by rw [hw]; simp), atL_some he, he]
  dsimp only
  rw [h1]
  exact if_pos ⟨rfl, cov_join h2 hm hc⟩
end
theorem plain_sc (ops : List Op) : plainL [.sl (ops.map opV)] = true := by
  have : ∀ l : List Op, plainL (l.map opV) = true := by
    intro l
    induction l with
    | nil => rfl
    | cons o l ih =>
      rw [List.map_cons]
      unfold plainL
      rw [ih]
      rfl
  simp only [plainL, V.plain, this, Bool.and_true]
end Go.Proofs.Ytpkeiaeaonmacaa
namespace Go.Proofs.Ytpkeiaeaonmacaa
open Go Go.Lite
set_option linter.unusedSimpArgs false
set_option linter.unusedVariables false
set_option linter.unnecessarySimpa false
set_option maxRecDepth 10000
section
variable {els : List V} {ms : List (List (V × V))} {lk ws : List (V × V)} {ix : Bs → Nat} {L : List Lk} {W : WL} {b : Int} {n N : Nat} {S : Bs → Prop} {nm : Bs} {e : Lk} {o x : Int}
theorem keys_put_old {α : Type} {l : List (Int × α)} {a : α} (h : x ∈ keys l) : x ∈ keys (putA l o a) := by
  rw [keys_put]
  split
  · exact h
  · exact List.mem_append.2 (.inl h)
theorem keys_put_new {α : Type} {l : List (Int × α)} {a : α} : o ∈ keys (putA l o a) := List.mem_map.2 ⟨_, put_mem, rfl⟩
theorem comeQ_keys : ∀ (q hs : HQ), (∀ x ∈ keys hs, x ∈ keys (comeQ q hs).1) ∧ (∀ x ∈ (comeQ q hs).2.2, x ∈ keys (comeQ q hs).1 ∧ x ∈ keys q) ∧ (∀ p ∈ (comeQ q hs).1, p ∈ hs ∨ p ∈ q) ∧ ∀ p ∈ (comeQ q hs).2.1, p ∈ q
  | [], hs => ⟨fun _ h => h, fun _ h => (by cases h), fun _ h => .inl h, fun _ h => (by cases h)⟩
  | p :: q, hs => by
    unfold comeQ
    split
    · obtain ⟨h1, h2, h3, h4⟩ := comeQ_keys q (putA hs p.1 p.2)
      refine ⟨fun x hx => h1 x (keys_put_old hx), fun x hx => ?_, fun y hy => ?_, fun y hy => List.mem_cons_of_mem _ (h4 y hy)⟩
      · rcases List.mem_cons.1 hx with rfl | hx
        · exact ⟨h1 _ keys_put_new, by simp⟩
        · exact ⟨(h2 x hx).1, List.mem_cons_of_mem _ (h2 x hx).2⟩
      · rcases h3 y hy with h | h
        · rcases putA_mem h with h | rfl
          · exact .inl h
          · exact .inr (by simp)
        · exact .inr (List.mem_cons_of_mem _ h)
    · exact ⟨fun _ h => h, fun _ h => (by cases h), fun _ h => .inl h, fun _ h => h⟩
theorem getA_del_none {α : Type} {l : List (Int × α)} (h : getA l x = none) : getA (delA l o) x = none := by
  refine getA_out fun hm => ?_
  have := getA_none h
  exact this (((delA_sub l o).map _).subset hm)
theorem delAll_none : ∀ (l : List Int) (W : WL), getA W x = none → getA (delAll W l) x = none
  | [], W, h => h
  | c :: l, W, h => delAll_none l _ (getA_del_none h)
theorem delAll_in : ∀ (l : List Int) (W : WL), (keys W).Nodup → x ∈ l → getA (delAll W l) x = none
  | c :: l, W, hn, h => by
    rcases List.mem_cons.1 h with rfl | h
    · exact delAll_none l _ (getA_del_self hn)
    · exact delAll_in l _ (nodup_del hn) h
theorem tidy_sub {x : Lk} (h : x ∈ tidyL L nm) : x ∈ L := by
  unfold tidyL at h
  split at h
  · split at h
    · exact (List.mem_filter.1 h).1
    · exact h
  · exact h
theorem tidy_in {x : Lk} (hn : (nms L).Nodup) (h : x ∈ L) (hh : x.held ≠ []) : x ∈ tidyL L nm := by
  unfold tidyL
  split
  · rename_i e he
    split
    · rename_i hb
      refine List.mem_filter.2 ⟨h, ?_⟩
      have : x.nm ≠ nm := fun e1 => by
        have := getL_of hn h
        rw [e1, he] at this
        cases this
        exact hh hb.1
      simpa using this
    · exact h
  · exact h
structure DI (o : Int) (L : List Lk) (W : WL) (out : List Int) : Prop where
  no : ∀ e ∈ L, o ∉ keys e.held ∧ o ∉ keys e.q
  nw : getA W o = none
  got : ∀ x ∈ out, x ≠ o ∧ getA W x = none ∧ ∃ e ∈ L, x ∈ keys e.held
theorem DI.come {out : List Int} (h : DI o L W out) (g : WG b n S L W) (nm : Bs) : DI o (comeL L W nm).1 (comeL L W nm).2.1 (out ++ (comeL L W nm).2.2) := by
  cases he : getL L nm with
  | none => rw [come_none he, List.append_nil]; exact h
  | some e =>
    obtain ⟨hm, hnm⟩ := getL_some he
    obtain ⟨k1, k2, k3, k4⟩ := comeQ_keys e.q e.held
    have hnd : (nms (setL L nm (comeQ e.q e.held).1 (comeQ e.q e.held).2.1)).Nodup := by rw [nms_set]; exact g.nd
    rw [come_some he]
    refine ⟨fun y hy => ?_, delAll_none _ _ h.nw, fun x hx => ?_⟩
    · rcases mem_set (tidy_sub hy) with rfl | ⟨hy, _⟩
      · refine ⟨fun ho => ?_, fun ho => ?_⟩ <;> obtain ⟨p, hp, e1⟩ := List.mem_map.1 ho
        · rcases k3 p hp with hp | hp
          · exact (h.no e hm).1 (List.mem_map.2 ⟨p, hp, e1⟩)
          · exact (h.no e hm).2 (List.mem_map.2 ⟨p, hp, e1⟩)
        · exact (h.no e hm).2 (List.mem_map.2 ⟨p, k4 p hp, e1⟩)
      · exact h.no y hy
    · have key : ∀ y ∈ L, x ∈ keys y.held → ∃ e' ∈ tidyL (setL L nm (comeQ e.q e.held).1 (comeQ e.q e.held).2.1) nm, x ∈ keys e'.held := by
        intro y hy hxx
        by_cases hyn : y.nm = nm
        · have : y = e := by
            have := getL_of g.nd hy
            rw [hyn, he] at this
            exact (Option.some.inj this).symm
          subst this
          have hk := k1 x hxx
          refine ⟨_, tidy_in hnd (set_in he _ _) (fun h0 => ?_), hk⟩
          have h0 : (comeQ y.q y.held).1 = [] := h0
          rw [h0] at hk; cases hk
        · exact ⟨y, tidy_in hnd (set_other hy hyn _ _) (fun h0 => by rw [h0] at hxx; cases hxx), hxx⟩
      rcases List.mem_append.1 hx with hx | hx
      · obtain ⟨h1, h2, y, hy, h3⟩ := h.got x hx
        exact ⟨h1, delAll_none _ _ h2, key y hy h3⟩
      · obtain ⟨h1, h2⟩ := k2 x hx
        refine ⟨?_, delAll_in _ _ g.wn hx, ?_⟩
        · rintro rfl
          exact (h.no e hm).2 h2
        · refine ⟨_, tidy_in hnd (set_in he _ _) (fun h0 => ?_), h1⟩
          have h0 : (comeQ e.q e.held).1 = [] := h0
          rw [h0] at h1; cases h1
theorem DI.comeAll : ∀ (ks : List Bs) (L : List Lk) (W : WL) (out : List Int), WG b n (fun x => x ∈ ks) L W → DI o L W out → DI o (comeAll ks L W).1 (comeAll ks L W).2.1 (out ++ (comeAll ks L W).2.2)
  | [], L, W, out, _, h => by show DI o L W (out ++ []); rw [List.append_nil]; exact h
  | c :: ks, L, W, out, g, h => by
    have := DI.comeAll ks _ _ _ ((g.come c).weak (fun x hx => (List.mem_cons.1 hx.1).resolve_left hx.2) (Nat.le_refl _)) (h.come g c)
    rw [List.append_assoc] at this
    exact this
theorem Good.di (g : Good b n L W) (o : Int) : DI o (dropA L W o).1 (dropA L W o).2.1 (dropA L W o).2.2 := by
  have h1 := WG.drop g o
  have h2 : ∀ e ∈ dropL L o, e.nm ∈ srtS (nms L) := fun e he => srtS_mem.2 (by rw [← nms_drop (L := L) o]; exact List.mem_map.2 ⟨e, he, rfl⟩)
  have h3 : WG b n (fun x => x ∈ srtS (nms L)) (dropL L o) (delA W o) := ⟨h1.bb, h1.nd, h1.hn, h1.qn, h1.wn, h1.wq, h1.wok, h1.tot, h1.rh, h1.rq, h1.hm, h1.qm, h1.fit, h1.nb, h1.acy, fun e he hs => absurd (h2 e he) hs, fun e he hs => absurd (h2 e he) hs⟩
  have h4 : DI o (dropL L o) (delA W o) [] := by
    refine ⟨fun e he => ?_, getA_del_self g.wn, fun x hx => (by cases hx)⟩
    obtain ⟨y, hy, rfl⟩ := dropL_mem he
    refine ⟨fun ho => ?_, fun ho => ?_⟩
    · exact getA_none (getA_del_self (g.hn y hy)) ho
    · obtain ⟨p, hp, e1⟩ := List.mem_map.1 ho
      have := (List.mem_filter.1 hp).2
      simp [e1] at this
  exact DI.comeAll _ _ _ [] h3 h4
theorem held_ne (hn : (nms L).Nodup) {e : Lk} (he : e ∈ L) (hx : x ∈ keys e.held) : heldA L x ≠ [] := by
  obtain ⟨p, hp, e1⟩ := List.mem_map.1 hx
  cases hg : getA e.held x with
  | none => exact absurd hx (getA_none hg)
  | some m =>
    have : (e.nm, m) ∈ heldA L x := by
      unfold heldA heldN
      rw [List.mem_filterMap]
      refine ⟨e.nm, srtS_mem.2 (List.mem_map.2 ⟨e, he, rfl⟩), ?_⟩
      rw [getL_of hn he, Option.bind_some, hg, Option.map_some]
    exact List.ne_nil_of_mem this
theorem held_nil (h : ∀ e ∈ L, o ∉ keys e.held) : heldA L o = [] := by
  unfold heldA heldN
  rw [List.filterMap_eq_nil_iff]
  intro nm _
  cases hg : getL L nm with
  | none => rfl
  | some e => rw [Option.bind_some, getA_out (h e (getL_some hg).1)]; rfl
theorem hold_out (h : ∀ e ∈ L, o ∉ keys e.held) : o ∉ holdA L nm := by
  unfold holdA
  split
  · simp
  · rename_i e he
    rw [srt_mem]
    exact h e (getL_some he).1
end
end Go.Proofs.Ytpkeiaeaonmacaa
namespace Go.Proofs.Ytpkeiaeaonmacaa
open Go Go.Lite
set_option maxRecDepth 100000
set_option linter.unusedVariables false
noncomputable def fa8 : FA := ⟨2, 129, [.tmp 4], [4],
 (.seq
 (.ops false [o1 4 (.assign (.const (.bool false))) 4])
 (.seq
 (.ops false [o1 18 (.call ⟨(.value (.func 9)), #[], #[]⟩) 23, asg 5 18 23])
 (.seq
 (.seq
 (.ops false [mv 19 5 23, o1 20 (.binOp .eql 23 (t' 19) (.const (.pointer none)) 23) 4])
 (.cond (t' 20)
 (.seq
 (.ops false [o1 4 (.assign (.const (.bool false))) 4])
 (.ret))
 (.skip)))
 (.seq
 (.seq
 (.ops false [o1 6 (.assign (.const (.int .i64 (0)))) 3])
 (.block 0
 (.loop ([2, 3] ++ List.range' 7 122)
 (.seq
 (.seq
 (.ops false [mv 21 6 3, mv 22 0 22, o1 23 (.call ⟨(.builtin .len), #[(t' 22)], #[22]⟩) 3, o1 24 (.binOp .lss 3 (t' 21) (t' 23) 3) 4, mv 25 24 4, o2 26 (.move (t' 6)) 3 25 true, o2 27 (.binOp .lss 3 (t' 26) (.const (.int .i64 (60))) 3) 4 25 true, o1 28 (.pick (t' 25) (t' 27) (.const (.bool false))) 4])
 (.cond (t' 28)
 (.skip)
 (.exit 0)))
 (.seq
 (.block 1
 (.ops false [mv 31 5 23, mv 32 0 22, mv 33 6 3, o1 34 (.indexAddr 22 (t' 32) (t' 33)) 0, o1 35 (.load 27 (t' 34)) 27, o1 36 (.call ⟨(.value (.func 10)), #[(t' 31), (t' 35)], #[23, 27]⟩) 0]))
 (.ops false [mv 29 6 3, o1 30 (.binOp .add 3 (t' 29) (.const (.int .i64 (1))) 3) 3, asg 6 30 3]))))))
 (.seq
 (.ops false [mv 37 1 3, o1 38 (.binOp .and 3 (t' 37) (.const (.int .i64 (7))) 3) 3, asg 7 38 3])
 (.seq
 (.ops false [mv 39 5 23, mv 40 7 3, o1 41 (.call ⟨(.value (.func 19)), #[(t' 39), (t' 40)], #[23, 3]⟩) 40, asg 8 41 40])
 (.seq
 (.ops false [mv 42 5 23, mv 43 7 3, o1 44 (.call ⟨(.value (.func 18)), #[(t' 42), (t' 43)], #[23, 3]⟩) 28, asg 9 44 28])
 (.seq
 (.ops false [mv 46 5 23, mv 47 7 3, o1 48 (.call ⟨(.value (.func 15)), #[(t' 46), (t' 47)], #[23, 3]⟩) 34, mv 45 48 34, o1 49 (.extract (t' 45) 0) 33, o1 50 (.extract (t' 45) 1) 4, o1 10 (.alloc 33) 0, o0 (.store 33 (t' 10) (t' 49)) 0, asg 11 50 4])
 (.seq
 (.seq
 (.ops false [o1 12 (.assign (.const (.int .i64 (0)))) 3])
 (.block 2
 (.loop (List.range' 0 4 ++ [6, 10] ++ List.range' 13 116)
 (.seq
 (.seq
 (.ops false [mv 51 12 3, mv 52 9 28, o1 53 (.call ⟨(.builtin .len), #[(t' 52)], #[28]⟩) 3, o1 54 (.binOp .lss 3 (t' 51) (t' 53) 3) 4])
 (.cond (t' 54)
 (.skip)
 (.exit 2)))
 (.seq
 (.block 3
 (.seq
 (.ops false [mv 58 5 23, mv 59 9 28, mv 60 12 3, o1 61 (.indexAddr 28 (t' 59) (t' 60)) 0, o1 62 (.load 3 (t' 61)) 3, o1 63 (.call ⟨(.value (.func 15)), #[(t' 58), (t' 62)], #[23, 3]⟩) 34, mv 57 63 34, o1 64 (.extract (t' 57) 0) 33, o1 65 (.extract (t' 57) 1) 4, o1 13 (.alloc 33) 0, o0 (.store 33 (t' 13) (t' 64)) 0, asg 14 65 4])
 (.seq
 (.ops false [mv 66 14 4, mv 67 66 4, o2 68 (.move (t' 9)) 28 67 false, o2 69 (.move (t' 12)) 3 67 false, o2 70 (.indexAddr 28 (t' 68) (t' 69)) 0 67 false, o2 71 (.load 3 (t' 70)) 3 67 false, o2 72 (.move (t' 7)) 3 67 false, o2 73 (.binOp .eql 3 (t' 71) (t' 72) 3) 4 67 false, o1 74 (.pick (t' 67) (.const (.bool true)) (t' 73)) 4, mv 75 74 4, o2 76 (.move (t' 5)) 23 75 false, o2 77 (.move (t' 9)) 28 75 false, o2 78 (.move (t' 12)) 3 75 false, o2 79 (.indexAddr 28 (t' 77) (t' 78)) 0 75 false, o2 80 (.load 3 (t' 79)) 3 75 false, o2 81 (.call ⟨(.value (.func 19)), #[(t' 76), (t' 80)], #[23, 3]⟩) 40 75 false, o2 82 (.call ⟨(.builtin .len), #[(t' 81)], #[40]⟩) 3 75 false, o2 83 (.binOp .eql 3 (t' 82) (.const (.int .i64 (0))) 3) 4 75 false, o1 84 (.pick (t' 75) (.const (.bool true)) (t' 83)) 4])
 (.cond (t' 84)
 (.seq
 (.ops false [o1 4 (.assign (.const (.bool false))) 4])
 (.ret))
 (.skip)))))
 (.ops false [mv 55 12 3, o1 56 (.binOp .add 3 (t' 55) (.const (.int .i64 (1))) 3) 3, asg 12 56 3]))))))
 (.seq
 (.seq
 (.ops false [o1 15 (.assign (.const (.int .i64 (0)))) 3])
 (.block 4
 (.loop (List.range' 0 4 ++ [6, 9, 10, 12, 13, 14] ++ List.range' 16 113)
 (.seq
 (.seq
 (.ops false [mv 85 15 3, mv 86 8 40, o1 87 (.call ⟨(.builtin .len), #[(t' 86)], #[40]⟩) 3, o1 88 (.binOp .lss 3 (t' 85) (t' 87) 3) 4])
 (.cond (t' 88)
 (.skip)
 (.exit 4)))
 (.seq
 (.block 5
 (.seq
 (.ops false [mv 91 5 23, mv 92 8 40, mv 93 15 3, o1 94 (.indexAddr 40 (t' 92) (t' 93)) 0, o1 95 (.fieldAddr 33 (t' 94) 0) 0, o1 96 (.load 9 (t' 95)) 9, o1 97 (.call ⟨(.value (.func 11)), #[(t' 91), (t' 96)], #[23, 9]⟩) 28, asg 16 97 28])
 (.seq
 (.ops false [o1 17 (.assign (.const (.int .i64 (0)))) 3])
 (.block 6
 (.loop (List.range' 0 4 ++ [6, 9, 10, 12, 13, 14] ++ List.range' 18 111)
 (.seq
 (.seq
 (.ops false [mv 98 17 3, mv 99 16 28, o1 100 (.call ⟨(.builtin .len), #[(t' 99)], #[28]⟩) 3, o1 101 (.binOp .lss 3 (t' 98) (t' 100) 3) 4])
 (.cond (t' 101)
 (.skip)
 (.exit 6)))
 (.seq
 (.block 7
 (.seq
 (.ops false [mv 104 16 28, mv 105 17 3, o1 106 (.indexAddr 28 (t' 104) (t' 105)) 0, o1 107 (.load 3 (t' 106)) 3, mv 108 7 3, o1 109 (.binOp .eql 3 (t' 107) (t' 108) 3) 4])
 (.cond (t' 109)
 (.seq
 (.ops false [o1 4 (.assign (.const (.bool false))) 4])
 (.ret))
 (.skip))))
 (.ops false [mv 102 17 3, o1 103 (.binOp .add 3 (t' 102) (.const (.int .i64 (1))) 3) 3, asg 17 103 3]))))))))
 (.ops false [mv 89 15 3, o1 90 (.binOp .add 3 (t' 89) (.const (.int .i64 (1))) 3) 3, asg 15 90 3]))))))
 (.seq
 (.ops false [mv 110 11 4, o1 111 (.unOp .not 4 (t' 110)) 4, mv 112 111 4, o2 113 (.move (t' 5)) 23 112 true, o2 114 (.move (t' 7)) 3 112 true, o2 115 (.call ⟨(.value (.func 19)), #[(t' 113), (t' 114)], #[23, 3]⟩) 40 112 true, o2 116 (.call ⟨(.builtin .len), #[(t' 115)], #[40]⟩) 3 112 true, o2 117 (.binOp .eql 3 (t' 116) (.const (.int .i64 (0))) 3) 4 112 true, o1 118 (.pick (t' 112) (t' 117) (.const (.bool false))) 4, mv 119 118 4, o2 120 (.move (t' 5)) 23 119 true, o2 121 (.move (t' 7)) 3 119 true, o2 122 (.call ⟨(.value (.func 16)), #[(t' 120), (t' 121)], #[23, 3]⟩) 28 119 true, o2 123 (.call ⟨(.builtin .len), #[(t' 122)], #[28]⟩) 3 119 true, o2 124 (.binOp .eql 3 (t' 123) (.const (.int .i64 (0))) 3) 4 119 true, o1 125 (.pick (t' 119) (t' 124) (.const (.bool false))) 4, mv 126 125 4, o2 127 (.call ⟨(.value (.func 17)), #[], #[]⟩) 4 126 true, o1 128 (.pick (t' 126) (t' 127) (.const (.bool false))) 4, asg 4 128 4])
 (.ret))))))))))))⟩
theorem fa8_eq : fnA cfgB.P (cfgB.rxf 8) 8 = some fa8 := by kernel_rfl
def T8_0 (x0 : List V) (x1 : Int) (x6 : Int) (m0 : List V) (m1 : List (List (V × V))) (m3 : List (V × V)) (m4 : List (V × V)) : S := ⟨[V.sl x0, V.int .i64 x1, V.junk, V.junk, V.bool false, V.ptr 2 0 0, V.int .i64 x6] ++ (JU 122), (tm m0 m1 m3 m4)⟩
def T8_1 (x7 : Int) (x11 : Bool) (x12 : Int) (m0 : List V) (m1 : List (List (V × V))) (m3 : List V) (m4 : List V) (m5 : List (V × V)) (m6 : List (V × V)) : S := ⟨(JU 4) ++ [V.bool false, V.ptr 2 0 0, V.junk, V.int .i64 x7, V.own 3, V.own 4, V.junk, V.bool x11, V.int .i64 x12] ++ (JU 116), [O.arena 61 m0, O.marena 58 m1, O.box 50 (V.agg [V.mp 5, V.mp 6]) false, O.row 33 m3 0, O.row 3 m4 0, O.map m5, O.map m6]⟩
def T8_2 (x7 : Int) (x11 : Bool) (x15 : Int) (m0 : List V) (m1 : List (List (V × V))) (m3 : List V) (m4 : List (V × V)) (m5 : List (V × V)) : S := ⟨(JU 4) ++ [V.bool false, V.ptr 2 0 0, V.junk, V.int .i64 x7, V.own 3, V.junk, V.junk, V.bool x11, V.junk, V.junk, V.junk, V.int .i64 x15] ++ (JU 113), [O.arena 61 m0, O.marena 58 m1, O.box 50 (V.agg [V.mp 4, V.mp 5]) false, O.row 33 m3 0, O.map m4, O.map m5]⟩
def T8_3 (x7 : Int) (x11 : Bool) (x15 : Int) (x17 : Int) (m0 : List V) (m1 : List (List (V × V))) (m3 : List V) (m4 : List V) (m5 : List (V × V)) (m6 : List (V × V)) : S := ⟨(JU 4) ++ [V.bool false, V.ptr 2 0 0, V.junk, V.int .i64 x7, V.own 3, V.junk, V.junk, V.bool x11, V.junk, V.junk, V.junk, V.int .i64 x15, V.own 4, V.int .i64 x17] ++ (JU 111), [O.arena 61 m0, O.marena 58 m1, O.box 50 (V.agg [V.mp 5, V.mp 6]) false, O.row 33 m3 0, O.row 3 m4 0, O.map m5, O.map m6]⟩
noncomputable def e8 (sc : List V) (wh : Int) : R :=
  some (.head 0 (T8_0 sc wh 0 [] [] [] []))
theorem e8_eq (sc : List V) (wh : Int) : enterK kcB true fa8 [V.sl sc, V.int .i64 wh] [O.arena 61 [], O.marena 58 []] = e8 sc wh := by kernel_rfl
noncomputable def s8_0 (x0 : List V) (x1 : Int) (x6 : Int) (m0 : List V) (m1 : List (List (V × V))) (m3 : List (V × V)) (m4 : List (V × V)) : R :=
  cond (decide (x6 < (x0.length : Int)))
 (cond (decide (x6 < 60))
 (gd (decide (0 ≤ x6)) <|
  idxK x0 x6.toNat fun v =>
  d27 v fun kind0 owner name mode =>
  gd (decide (0 ≤ (if 2 < (name.length : Int) then 2 else (name.length : Int)))) <|
  gd (decide ((if 2 < (name.length : Int) then 2 else (name.length : Int)).toNat ≤ name.length)) <|
  cond (kind0 == (0 : Int))
 (icM cfgB ⟨true, false⟩ mk20 20 [V.ptr 2 0 0, V.int .i64 (W .i64 (((BitVec.ofInt (IntKind.bits .i64) owner &&& BitVec.ofInt (IntKind.bits .i64) 7).toNat : Int))), V.str (name.take ((if 2 < (name.length : Int) then 2 else (name.length : Int)).toNat)), V.int .i64 mode] (tm m0 m1 m3 m4) fun L =>
  some (.head 0 (T8_0 x0 x1 (W .i64 (x6 + 1)) L.2.1 L.2.2.1 L.2.2.2.1 L.2.2.2.2)))
 (cond (kind0 == (1 : Int))
 (icM cfgB ⟨true, false⟩ mk24 24 [V.ptr 2 0 0, V.int .i64 (W .i64 (((BitVec.ofInt (IntKind.bits .i64) owner &&& BitVec.ofInt (IntKind.bits .i64) 7).toNat : Int))), V.str (name.take ((if 2 < (name.length : Int) then 2 else (name.length : Int)).toNat))] (tm m0 m1 m3 m4) fun L_1 =>
  some (.head 0 (T8_0 x0 x1 (W .i64 (x6 + 1)) L_1.2.1 L_1.2.2.1 L_1.2.2.2.1 L_1.2.2.2.2.1)))
 (icM cfgB ⟨true, false⟩ mk18 18 [V.ptr 2 0 0, V.int .i64 (W .i64 (((BitVec.ofInt (IntKind.bits .i64) owner &&& BitVec.ofInt (IntKind.bits .i64) 7).toNat : Int)))] (tm m0 m1 m3 m4) fun L_2 =>
  some (.head 0 (T8_0 x0 x1 (W .i64 (x6 + 1)) L_2.1 L_2.2.1 L_2.2.2.1 L_2.2.2.2.1)))))
 (icM cfgB ⟨true, false⟩ mk19 19 [V.ptr 2 0 0, V.int .i64 (W .i64 (((BitVec.ofInt (IntKind.bits .i64) x1 &&& BitVec.ofInt (IntKind.bits .i64) 7).toNat : Int)))] (tm m0 m1 m3 m4) fun L_3 =>
  icM cfgB ⟨true, false⟩ mk18 18 [V.ptr 2 0 0, V.int .i64 (W .i64 (((BitVec.ofInt (IntKind.bits .i64) x1 &&& BitVec.ofInt (IntKind.bits .i64) 7).toNat : Int)))] (tm L_3.1 L_3.2.1 L_3.2.2.1 L_3.2.2.2.1) fun L_4 =>
  icM cfgB ⟨true, false⟩ mk15 15 [V.ptr 2 0 0, V.int .i64 (W .i64 (((BitVec.ofInt (IntKind.bits .i64) x1 &&& BitVec.ofInt (IntKind.bits .i64) 7).toNat : Int)))] (tm L_4.1 L_4.2.1 L_4.2.2.1 L_4.2.2.2.1) fun L_5 =>
  some (.head 1 (T8_1 (W .i64 (((BitVec.ofInt (IntKind.bits .i64) x1 &&& BitVec.ofInt (IntKind.bits .i64) 7).toNat : Int))) L_5.2.2.1 0 L_5.2.2.2.1 L_5.2.2.2.2.1 L_3.2.2.2.2 L_4.2.2.2.2 L_5.2.2.2.2.2.1 L_5.2.2.2.2.2.2))))
 (icM cfgB ⟨true, false⟩ mk19 19 [V.ptr 2 0 0, V.int .i64 (W .i64 (((BitVec.ofInt (IntKind.bits .i64) x1 &&& BitVec.ofInt (IntKind.bits .i64) 7).toNat : Int)))] (tm m0 m1 m3 m4) fun L_6 =>
  icM cfgB ⟨true, false⟩ mk18 18 [V.ptr 2 0 0, V.int .i64 (W .i64 (((BitVec.ofInt (IntKind.bits .i64) x1 &&& BitVec.ofInt (IntKind.bits .i64) 7).toNat : Int)))] (tm L_6.1 L_6.2.1 L_6.2.2.1 L_6.2.2.2.1) fun L_7 =>
  icM cfgB ⟨true, false⟩ mk15 15 [V.ptr 2 0 0, V.int .i64 (W .i64 (((BitVec.ofInt (IntKind.bits .i64) x1 &&& BitVec.ofInt (IntKind.bits .i64) 7).toNat : Int)))] (tm L_7.1 L_7.2.1 L_7.2.2.1 L_7.2.2.2.1) fun L_8 =>
  some (.head 1 (T8_1 (W .i64 (((BitVec.ofInt (IntKind.bits .i64) x1 &&& BitVec.ofInt (IntKind.bits .i64) 7).toNat : Int))) L_8.2.2.1 0 L_8.2.2.2.1 L_8.2.2.2.2.1 L_6.2.2.2.2 L_7.2.2.2.2 L_8.2.2.2.2.2.1 L_8.2.2.2.2.2.2)))
theorem s8_0_eq (x0 : List V) (x1 : Int) (x6 : Int) (m0 : List V) (m1 : List (List (V × V))) (m3 : List (V × V)) (m4 : List (V × V)) : goK kcB true 2 fa8 0 (T8_0 x0 x1 x6 m0 m1 m3 m4) = s8_0 x0 x1 x6 m0 m1 m3 m4 := by kernel_rfl
theorem s8_0_run (x0 : List V) (x1 : Int) (x6 : Int) (m0 : List V) (m1 : List (List (V × V))) (m3 : List (V × V)) (m4 : List (V × V)) {o o' : Out} (h : s8_0 x0 x1 x6 m0 m1 m3 m4 = some o) (hg : Go kcB true 2 fa8 o o') : Go kcB true 2 fa8 (.head 0 (T8_0 x0 x1 x6 m0 m1 m3 m4)) o' := .step ((s8_0_eq x0 x1 x6 m0 m1 m3 m4).trans h) hg
noncomputable def s8_1 (x7 : Int) (x11 : Bool) (x12 : Int) (m0 : List V) (m1 : List (List (V × V))) (m3 : List V) (m4 : List V) (m5 : List (V × V)) (m6 : List (V × V)) : R :=
  cond (decide (x12 < (m4.length : Int)))
 (gd (decide (0 ≤ x12)) <|
  gd (decide (x12.toNat < m4.length)) <|
  idxK m4 x12.toNat fun v =>
  kI .i64 v fun n =>
  icM cfgB ⟨true, false⟩ mk15 15 [V.ptr 2 0 0, V.int .i64 n] (tm m0 m1 m5 m6) fun L =>
  cond L.2.2.1
 (some (.doneM (V.bool false) [O.arena 61 L.2.2.2.1, O.marena 58 L.2.2.2.2.1, O.box 50 (V.agg [V.mp 5, V.mp 6]) false, O.row 33 m3 0, O.row 3 m4 0, O.map L.2.2.2.2.2.1, O.map L.2.2.2.2.2.2]))
 (gd (decide (0 ≤ x12)) <|
  gd (decide (x12.toNat < m4.length)) <|
  idxK m4 x12.toNat fun v_1 =>
  kI .i64 v_1 fun n_1 =>
  cond (n_1 == x7)
 (some (.doneM (V.bool false) [O.arena 61 L.2.2.2.1, O.marena 58 L.2.2.2.2.1, O.box 50 (V.agg [V.mp 5, V.mp 6]) false, O.row 33 m3 0, O.row 3 m4 0, O.map L.2.2.2.2.2.1, O.map L.2.2.2.2.2.2]))
 (gd (decide (0 ≤ x12)) <|
  gd (decide (x12.toNat < m4.length)) <|
  idxK m4 x12.toNat fun v_2 =>
  kI .i64 v_2 fun n_2 =>
  icM cfgB ⟨true, false⟩ mk19 19 [V.ptr 2 0 0, V.int .i64 n_2] (tm L.2.2.2.1 L.2.2.2.2.1 L.2.2.2.2.2.1 L.2.2.2.2.2.2) fun L_1 =>
  cond ((L_1.2.2.2.2.length : Int) == (0 : Int))
 (some (.doneM (V.bool false) [O.arena 61 L_1.1, O.marena 58 L_1.2.1, O.box 50 (V.agg [V.mp 5, V.mp 6]) false, O.row 33 m3 0, O.row 3 m4 0, O.map L_1.2.2.1, O.map L_1.2.2.2.1]))
 (some (.head 1 (T8_1 x7 x11 (W .i64 (x12 + 1)) L_1.1 L_1.2.1 m3 m4 L_1.2.2.1 L_1.2.2.2.1))))))
 (some (.head 2 (T8_2 x7 x11 0 m0 m1 m3 m5 m6)))
theorem s8_1_eq (x7 : Int) (x11 : Bool) (x12 : Int) (m0 : List V) (m1 : List (List (V × V))) (m3 : List V) (m4 : List V) (m5 : List (V × V)) (m6 : List (V × V)) : goK kcB true 2 fa8 1 (T8_1 x7 x11 x12 m0 m1 m3 m4 m5 m6) = s8_1 x7 x11 x12 m0 m1 m3 m4 m5 m6 := by kernel_rfl
theorem s8_1_run (x7 : Int) (x11 : Bool) (x12 : Int) (m0 : List V) (m1 : List (List (V × V))) (m3 : List V) (m4 : List V) (m5 : List (V × V)) (m6 : List (V × V)) {o o' : Out} (h : s8_1 x7 x11 x12 m0 m1 m3 m4 m5 m6 = some o) (hg : Go kcB true 2 fa8 o o') : Go kcB true 2 fa8 (.head 1 (T8_1 x7 x11 x12 m0 m1 m3 m4 m5 m6)) o' := .step ((s8_1_eq x7 x11 x12 m0 m1 m3 m4 m5 m6).trans h) hg
noncomputable def s8_2 (x7 : Int) (x11 : Bool) (x15 : Int) (m0 : List V) (m1 : List (List (V × V))) (m3 : List V) (m4 : List (V × V)) (m5 : List (V × V)) : R :=
  cond (decide (x15 < (m3.length : Int)))
 (gd (decide (0 ≤ x15)) <|
  gd (decide (x15.toNat < m3.length)) <|
  idxK m3 x15.toNat fun v =>
  d33 v fun name mode =>
  icM cfgB ⟨true, false⟩ mk11 11 [V.ptr 2 0 0, V.str name] (tm m0 m1 m4 m5) fun L =>
  some (.head 3 (T8_3 x7 x11 x15 0 L.1 L.2.1 m3 L.2.2.2.2 L.2.2.1 L.2.2.2.1)))
 (cond (!x11)
 (icM cfgB ⟨true, false⟩ mk19 19 [V.ptr 2 0 0, V.int .i64 x7] (tm m0 m1 m4 m5) fun L_1 =>
  cond ((L_1.2.2.2.2.length : Int) == (0 : Int))
 (opt (behindX L_1.1 L_1.2.1 L_1.2.2.1 L_1.2.2.2.1 x7) fun l =>
  cond (((l.map iV).length : Int) == (0 : Int))
 (pcK cfgB 17 [] fun r =>
  kB r fun r17 =>
  some (.doneM (V.bool r17) [O.arena 61 L_1.1, O.marena 58 L_1.2.1, O.box 50 (V.agg [V.mp 4, V.mp 5]) false, O.row 33 m3 0, O.map L_1.2.2.1, O.map L_1.2.2.2.1, O.row 33 L_1.2.2.2.2 0, O.row 3 (l.map iV) 0]))
 (some (.doneM (V.bool false) [O.arena 61 L_1.1, O.marena 58 L_1.2.1, O.box 50 (V.agg [V.mp 4, V.mp 5]) false, O.row 33 m3 0, O.map L_1.2.2.1, O.map L_1.2.2.2.1, O.row 33 L_1.2.2.2.2 0, O.row 3 (l.map iV) 0])))
 (some (.doneM (V.bool false) [O.arena 61 L_1.1, O.marena 58 L_1.2.1, O.box 50 (V.agg [V.mp 4, V.mp 5]) false, O.row 33 m3 0, O.map L_1.2.2.1, O.map L_1.2.2.2.1, O.row 33 L_1.2.2.2.2 0])))
 (some (.doneM (V.bool false) [O.arena 61 m0, O.marena 58 m1, O.box 50 (V.agg [V.mp 4, V.mp 5]) false, O.row 33 m3 0, O.map m4, O.map m5])))
theorem s8_2_eq (x7 : Int) (x11 : Bool) (x15 : Int) (m0 : List V) (m1 : List (List (V × V))) (m3 : List V) (m4 : List (V × V)) (m5 : List (V × V)) : goK kcB true 2 fa8 2 (T8_2 x7 x11 x15 m0 m1 m3 m4 m5) = s8_2 x7 x11 x15 m0 m1 m3 m4 m5 := by kernel_rfl
theorem s8_2_run (x7 : Int) (x11 : Bool) (x15 : Int) (m0 : List V) (m1 : List (List (V × V))) (m3 : List V) (m4 : List (V × V)) (m5 : List (V × V)) {o o' : Out} (h : s8_2 x7 x11 x15 m0 m1 m3 m4 m5 = some o) (hg : Go kcB true 2 fa8 o o') : Go kcB true 2 fa8 (.head 2 (T8_2 x7 x11 x15 m0 m1 m3 m4 m5)) o' := .step ((s8_2_eq x7 x11 x15 m0 m1 m3 m4 m5).trans h) hg
noncomputable def s8_3 (x7 : Int) (x11 : Bool) (x15 : Int) (x17 : Int) (m0 : List V) (m1 : List (List (V × V))) (m3 : List V) (m4 : List V) (m5 : List (V × V)) (m6 : List (V × V)) : R :=
  cond (decide (x17 < (m4.length : Int)))
 (gd (decide (0 ≤ x17)) <|
  gd (decide (x17.toNat < m4.length)) <|
  idxK m4 x17.toNat fun v =>
  kI .i64 v fun n =>
  cond (n == x7)
 (some (.doneM (V.bool false) [O.arena 61 m0, O.marena 58 m1, O.box 50 (V.agg [V.mp 4, V.mp 5]) false, O.row 33 m3 0, O.map m5, O.map m6]))
 (some (.head 3 (T8_3 x7 x11 x15 (W .i64 (x17 + 1)) m0 m1 m3 m4 m5 m6))))
 (some (.head 2 (T8_2 x7 x11 (W .i64 (x15 + 1)) m0 m1 m3 m5 m6)))
theorem s8_3_eq (x7 : Int) (x11 : Bool) (x15 : Int) (x17 : Int) (m0 : List V) (m1 : List (List (V × V))) (m3 : List V) (m4 : List V) (m5 : List (V × V)) (m6 : List (V × V)) : goK kcB true 2 fa8 3 (T8_3 x7 x11 x15 x17 m0 m1 m3 m4 m5 m6) = s8_3 x7 x11 x15 x17 m0 m1 m3 m4 m5 m6 := by kernel_rfl
theorem s8_3_run (x7 : Int) (x11 : Bool) (x15 : Int) (x17 : Int) (m0 : List V) (m1 : List (List (V × V))) (m3 : List V) (m4 : List V) (m5 : List (V × V)) (m6 : List (V × V)) {o o' : Out} (h : s8_3 x7 x11 x15 x17 m0 m1 m3 m4 m5 m6 = some o) (hg : Go kcB true 2 fa8 o o') : Go kcB true 2 fa8 (.head 3 (T8_3 x7 x11 x15 x17 m0 m1 m3 m4 m5 m6)) o' := .step ((s8_3_eq x7 x11 x15 x17 m0 m1 m3 m4 m5 m6).trans h) hg
end Go.Proofs.Ytpkeiaeaonmacaa
namespace Go.Proofs.Ytpkeiaeaonmacaa
open Go Go.Lite
set_option linter.unusedSimpArgs false
set_option linter.unusedVariables false
set_option linter.unnecessarySimpa false
set_option maxRecDepth 10000
section
variable {els : List V} {ms : List (List (V × V))} {lk ws : List (V × V)} {ix : Bs → Nat} {L : List Lk} {W : WL} {b : Int} {n N : Nat} {S : Bs → Prop} {nm : Bs} {e : Lk} {o x : Int}
theorem beh_nil (h : getA W o = none) : behA L W o = [] := by unfold behA; rw [h]
theorem held_len (g : Good b n L W) : (heldA L o).length ≤ n := by
  unfold heldA
  refine Nat.le_trans (heldN_len _ _ _) ?_
  rw [srtS_len]
  have := tot_ge L fun e he => g.ne e he fun f => f
  have := g.tot
  simp [nms]; omega
theorem hold_len (g : Good b n L W) : (holdA L nm).length ≤ n := by
  unfold holdA
  split
  · simp
  · rename_i e he
    rw [srt_len, List.length_map]
    have := tot_mem (getL_some he).1
    have := g.tot
    omega
end
abbrev D0 (sc : List V) (wh : Int) (i : Nat) (els : List V) (ms : List (List (V × V))) (lk ws : List (V × V)) : Out := .head 0 (T8_0 sc wh (i : Int) els ms lk ws)
theorem d_play (ops : List Op) (wh : Int) : ∀ (d i : Nat) (els : List V) (ms : List (List (V × V))) (lk ws : List (V × V)) (ix : Bs → Nat) (L : List Lk) (W : WL), i + d = 60 → Rep els ms lk ws ix L W → Good 8 i L W →
    ∃ i' els' ms' lk' ws' ix' L' W', (i' ≤ 60 ∧ (i' = 60 ∨ ops.length ≤ i')) ∧ Rep els' ms' lk' ws' ix' L' W' ∧ Good 8 60 L' W' ∧ ∀ q, Go kcB true 2 fa8 (D0 (ops.map opV) wh i' els' ms' lk' ws') q → Go kcB true 2 fa8 (D0 (ops.map opV) wh i els ms lk ws) q := by
  intro d
  induction d with
  | zero =>
    intro i els ms lk ws ix L W hi r g
    exact ⟨i, els, ms, lk, ws, ix, L, W, by omega, r, g.more (by omega), fun q hq => hq⟩
  | succ d ih =>
    intro i els ms lk ws ix L W hi r g
    by_cases hl : i < ops.length
    · obtain ⟨o, ho⟩ : ∃ o, ops[i]? = some o := ⟨_, List.getElem?_eq_getElem hl⟩
      obtain ⟨w, hw, ew⟩ := and7 o.owner
      have hcn := cut_nm o.name
      have g2 := g.play (o := w) hw.2 o.kind (cutN o.name) o.mode
      have hdec : decide ((i : Int) < ((ops.map opV).length : Int)) = true := decide_eq_true (by simp; omega)
      have hget := fun q => op_get ho q
      suffices hs : ∃ els' ms' lk' ix', Rep els' ms' lk' ((playA L W o.kind w (cutN o.name) o.mode).2.map wE) ix' (playA L W o.kind w (cutN o.name) o.mode).1 (playA L W o.kind w (cutN o.name) o.mode).2 ∧
          ∀ q, Go kcB true 2 fa8 (D0 (ops.map opV) wh (i + 1) els' ms' lk' ((playA L W o.kind w (cutN o.name) o.mode).2.map wE)) q → Go kcB true 2 fa8 (D0 (ops.map opV) wh i els ms lk ws) q by
        obtain ⟨els', ms', lk', ix', r', q'⟩ := hs
        obtain ⟨i2, els2, ms2, lk2, ws2, ix2, L2, W2, h1, r2, g3, q2⟩ := ih (i + 1) els' ms' lk' _ ix' _ _ (by omega) r' g2
        exact ⟨i2, els2, ms2, lk2, ws2, ix2, L2, W2, h1, r2, g3, fun q hq => q' q (q2 q hq)⟩
      by_cases h0 : o.kind = 0
      · have hp : playA L W o.kind w (cutN o.name) o.mode = (askA L W w (cutN o.name) o.mode).2 := if_pos h0
        rw [hp] at g2 ⊢
        obtain ⟨els', ms', lk', ix', k1, r'⟩ := ask_at r g (by omega) w (by unfold I64; omega) (cutN o.name) o.mode
        refine ⟨els', ms', lk', ix', r', fun q hq => s8_0_run _ _ _ _ _ _ _ ?_ hq⟩
        unfold s8_0
        rw [hdec, cond_true, decide_eq_true (by omega), cond_true, gd_of (by simp), hget, dO, gc1, gd_true, gc2, gd_true, ibeq_t h0, cond_true, cut_fold, ew, icM_of mk20_inj k1, wi i (by omega)]
      by_cases h1 : o.kind = 1
      · have hp : playA L W o.kind w (cutN o.name) o.mode = ((freeA L W w (cutN o.name)).2.1, (freeA L W w (cutN o.name)).2.2.1) := (if_neg h0).trans (if_pos h1)
        rw [hp] at g2 ⊢
        obtain ⟨els', ms', lk', ix', k1, r'⟩ := free_at r g (by omega) w (cutN o.name)
        refine ⟨els', ms', lk', ix', r', fun q hq => s8_0_run _ _ _ _ _ _ _ ?_ hq⟩
        unfold s8_0
        rw [hdec, cond_true, decide_eq_true (by omega), cond_true, gd_of (by simp), hget, dO, gc1, gd_true, gc2, gd_true, ibeq_f h0, cond_false, ibeq_t h1, cond_true, cut_fold, ew, icM_of mk24_inj k1, wi i (by omega)]
      · have hp : playA L W o.kind w (cutN o.name) o.mode = ((dropA L W w).1, (dropA L W w).2.1) := (if_neg h0).trans (if_neg h1)
        rw [hp] at g2 ⊢
        obtain ⟨els', ms', lk', ix', k1, r'⟩ := drop_at r g (by omega) w
        refine ⟨els', ms', lk', ix', r', fun q hq => s8_0_run _ _ _ _ _ _ _ ?_ hq⟩
        unfold s8_0
        rw [hdec, cond_true, decide_eq_true (by omega), cond_true, gd_of (by simp), hget, dO, gc1, gd_true, gc2, gd_true, ibeq_f h0, cond_false, ibeq_f h1, cond_false, ew, icM_of mk18_inj k1, wi i (by omega)]
    · exact ⟨i, els, ms, lk, ws, ix, L, W, by omega, r, g.more (by omega), fun q hq => hq⟩
section
variable {L : List Lk} {W : WL} {o : Int} {out : List Int} {H : List (Bs × Int)} {els : List V} {ms : List (List (V × V))} {lk ws : List (V × V)} {ix : Bs → Nat}
abbrev hosV (H : List (Bs × Int)) : List V := H.map hoV
theorem dH (p : Bs × Int) (k : Bs → Int → R) : d33 (hoV p) k = k p.1 p.2 := rfl
theorem d_holders (hs : List Int) (hl : hs.length ≤ 1000) (ho : o ∉ hs) (j : Nat) (hj : j ≤ 1000) : ∀ (d k : Nat), k + d = hs.length →
    ∀ q, Go kcB true 2 fa8 (.head 2 (T8_2 o false ((j + 1 : Nat) : Int) els ms (hosV H) lk ws)) q → Go kcB true 2 fa8 (.head 3 (T8_3 o false (j : Int) (k : Int) els ms (hosV H) (ints hs) lk ws)) q := by
  intro d
  induction d with
  | zero =>
    intro k hk q hq
    refine s8_3_run _ _ _ _ _ _ _ _ _ _ ?_ hq
    unfold s8_3
    rw [decide_eq_false (by rw [ints_len]; omega), cond_false, wi j (by omega)]
  | succ d ih =>
    intro k hk q hq
    obtain ⟨x, hx⟩ : ∃ x, hs[k]? = some x := ⟨_, List.getElem?_eq_getElem (by omega)⟩
    have hne : x ≠ o := fun e1 => ho (e1 ▸ List.mem_of_getElem? hx)
    refine s8_3_run _ _ _ _ _ _ _ _ _ _ ?_ (ih (k + 1) (by omega) q hq)
    unfold s8_3
    rw [decide_eq_true (by rw [ints_len]; omega), cond_true, gd_of (by simp), gd_of (decide_eq_true (by rw [ints_len]; omega)), toNat_cast, ints_get hx, kI_mk, ibeq_f hne, cond_false, wi k (by omega)]
theorem d_names (r : Rep els ms lk ws ix L W) (g : Good 8 60 L W) (h : DI o L W out) (hl : H.length ≤ 1000) : ∀ (d k : Nat), k + d = H.length →
    ∃ m, Go kcB true 2 fa8 (.head 2 (T8_2 o false (k : Int) els ms (hosV H) lk ws)) (.doneM (.bool true) m) := by
  intro d
  induction d with
  | zero =>
    intro k hk
    have k1 := held_at r g (by omega) o
    rw [held_nil fun e he => (h.no e he).1] at k1
    have k2 := beh_at r g (by omega) o
    rw [beh_nil h.nw] at k2
    apply Exists.intro
    refine s8_2_run _ _ _ _ _ _ _ _ ?_ (.refl _)
    unfold s8_2
    rw [decide_eq_false (by rw [List.length_map]; omega), cond_false, Bool.not_false, cond_true, icM_of mk19_inj k1]
    dsimp only
    rw [show (((([] : List (Bs × Int)).map hoV).length : Int) == 0) = true from rfl, cond_true, k2, opt_mk, show (((([] : List Int).map iV).length : Int) == 0) = true from rfl, cond_true, pcK_of fixed_ok, kB_mk]
  | succ d ih =>
    intro k hk
    obtain ⟨p, hp⟩ : ∃ p, H[k]? = some p := ⟨_, List.getElem?_eq_getElem (by omega)⟩
    obtain ⟨m, c⟩ := ih (k + 1) (by omega)
    refine ⟨m, s8_2_run _ _ _ _ _ _ _ _ ?_ (d_holders (holdA L p.1) (by have := hold_len (nm := p.1) g; omega) (hold_out fun e he => (h.no e he).1) k (by omega) (holdA L p.1).length 0 (by omega) _ c)⟩
    unfold s8_2
    rw [decide_eq_true (by rw [List.length_map]; omega), cond_true, gd_of (by simp), gd_of (decide_eq_true (by rw [List.length_map]; omega)), idxK_c hp, dH, icM_of mk11_inj (holders_at r g (by omega) p.1)]
    rfl
theorem d_got (r : Rep els ms lk ws ix L W) (g : Good 8 60 L W) (h : DI o L W out) (hl : H.length ≤ 1000) (ho : out.length ≤ 1000000 - 1) : ∀ (d k : Nat), k + d = out.length →
    ∃ m, Go kcB true 2 fa8 (.head 1 (T8_1 o false (k : Int) els ms (hosV H) (ints out) lk ws)) (.doneM (.bool true) m) := by
  intro d
  induction d with
  | zero =>
    intro k hk
    obtain ⟨m, c⟩ := d_names r g h hl H.length 0 (by omega)
    refine ⟨m, s8_1_run _ _ _ _ _ _ _ _ _ ?_ c⟩
    unfold s8_1
    rw [decide_eq_false (by rw [ints_len]; omega), cond_false]; rfl
  | succ d ih =>
    intro k hk
    obtain ⟨x, hx⟩ : ∃ x, out[k]? = some x := ⟨_, List.getElem?_eq_getElem (by omega)⟩
    obtain ⟨h1, h2, e, he, h3⟩ := h.got x (List.mem_of_getElem? hx)
    have k1 := waits_at r g (by omega) x
    rw [wait_of h2] at k1
    have k2 := held_at r g (by omega) x
    have h4 := held_ne g.nd he h3
    obtain ⟨m, c⟩ := ih (k + 1) (by omega)
    refine ⟨m, s8_1_run _ _ _ _ _ _ _ _ _ ?_ c⟩
    unfold s8_1
    have hg : ∀ q : R, gd (decide (((k : Nat) : Int).toNat < (ints out).length)) q = q := fun q => gd_of (decide_eq_true (by rw [ints_len]; omega))
    rw [decide_eq_true (by rw [ints_len]; omega), cond_true, gd_of (by simp), hg, toNat_cast, ints_get hx, kI_mk, icM_of mk15_inj k1]
    dsimp only
    rw [Option.isSome_none, cond_false, gd_of (by simp), gd_of (decide_eq_true (by rw [ints_len]; omega)), ints_get hx, kI_mk, ibeq_f h1, cond_false, gd_of (by simp), gd_of (decide_eq_true (by rw [ints_len]; omega)), ints_get hx, kI_mk, icM_of mk19_inj k2]
    dsimp only
    rw [lenZ, decide_eq_false h4, cond_false, wi k (by omega)]
end
theorem comeAll_len {N : Nat} : ∀ (ks : List Bs) (L : List Lk) (W : WL), Sz N L → (comeAll ks L W).2.2.length ≤ ks.length * N
  | [], L, W, _ => Nat.zero_le _
  | c :: ks, L, W, h => by
    obtain ⟨h1, h2⟩ := Sz.come (nm := c) (W := W) h
    have := comeAll_len ks _ (comeL L W c).2.1 h1
    show ((comeL L W c).2.2 ++ _).length ≤ (ks.length + 1) * N
    rw [List.length_append, Nat.succ_mul]
    omega
theorem drop_len {L : List Lk} {W : WL} {b : Int} {n : Nat} (g : Good b n L W) (hn : n ≤ 1000) (o : Int) : (dropA L W o).2.2.length ≤ n * 4000 := by
  have h1 := g.szN (N := 4000) (by omega) (by omega)
  have h2 : Sz 4000 (dropL L o) := by have := dropK_sz h1 (nms L) o; rwa [dropK_all (fun x hx => hx)] at this
  have h3 := comeAll_len (srtS (nms L)) (dropL L o) (delA W o) h2
  have h4 : (srtS (nms L)).length ≤ n := by
    rw [srtS_len]
    have := tot_ge L fun e he => g.ne e he fun f => f
    have := g.tot
    simp [nms]; omega
  exact Nat.le_trans h3 (Nat.mul_le_mul_right _ h4)
theorem lockDrop_ok (ops : List Op) (wh : Int) : pcW cfgB 8 [.sl (ops.map opV), .int .i64 wh] = some (.bool true) := by
  obtain ⟨o, ho, eo⟩ := and7 wh
  obtain ⟨i, els, ms, lk, ws, ix, L, W, hi, r, g, q0⟩ := d_play ops wh 60 0 [] [] [] [] (fun _ => 0) [] [] rfl Rep.mt (Good.mt (by decide))
  have k1 := held_at r g (by omega) o
  obtain ⟨els', ms', lk', ix', k2, r2⟩ := drop_at r g (by omega) o
  have g2 := Good.drop g o
  have hd := Good.di g o
  have k3 := waits_at r2 g2 (by omega) o
  rw [wait_of hd.nw] at k3
  obtain ⟨m, c⟩ := d_got (H := heldA L o) r2 g2 hd (by have := held_len (o := o) g; omega) (by have := drop_len g (by omega) o; omega) (dropA L W o).2.2.length 0 (by omega)
  have c2 := q0 (.doneM (.bool true) m) (s8_0_run _ _ _ _ _ _ _ (by
    unfold s8_0
    by_cases h60 : i < ops.length
    · rw [decide_eq_true (by simp; omega), cond_true, decide_eq_false (by omega), cond_false, eo, icM_of mk19_inj k1]
      dsimp only
      rw [icM_of mk18_inj k2]
      dsimp only
      rw [icM_of mk15_inj k3]
      rfl
    · rw [decide_eq_false (by simp; omega), cond_false, eo, icM_of mk19_inj k1]
      dsimp only
      rw [icM_of mk18_inj k2]
      dsimp only
      rw [icM_of mk15_inj k3]
      rfl) c)
  refine law_run rfl fa8_eq rfl rfl ?_ rfl ((e8_eq _ _).trans ?_) c2
  · have : plainL [.sl (ops.map opV), .int .i64 wh] = true := by
      have := plain_sc ops
      simp only [plainL, V.plain, Bool.and_true] at this ⊢
      exact this
    unfold arsOk
    rw [this]; rfl
  · rfl
end Go.Proofs.Ytpkeiaeaonmacaa
namespace Go.Proofs.Ytpkeiaeaonmacaa
open Go Go.Lite Go.ChangeShapes Go.WideShapes Go.ChangeAt Go.RowKit
set_option linter.unusedVariables false
set_option linter.unnecessarySimpa false
set_option maxRecDepth 100000
theorem hok : CfgOK cfgB := hokB
theorem tInt {n : Nat} {vs : List V} (h : TyC Try.prog n 3 vs) : ∃ m, vs = [.int .i64 m] ∧ (Lit.int .i64 m).wf = true := by
  cases n with
  | zero => cases h
  | succ n => unfold TyC at h; rw [Try.underlying3] at h; exact h
theorem aInt {n : Nat} {x : V} (h : ArgT Try.prog n 3 x) : ∃ m, x = .int .i64 m ∧ (Lit.int .i64 m).wf = true := by
  have h2 := h.leaf (by rw [Try.underlying3]; rfl)
  obtain ⟨m, e, w⟩ := tInt h.1
  exact ⟨m, by rw [h2] at e; simpa using e, w⟩
theorem tStr {n : Nat} {vs : List V} (h : TyC Try.prog n 9 vs) : ∃ s, vs = [.str s] ∧ s.length ≤ maxLen := by
  cases n with
  | zero => cases h
  | succ n => unfold TyC at h; rw [Try.underlying9] at h; exact h
theorem tOp {n : Nat} {vs : List V} (h : TyC Try.prog n 27 vs) : ∃ o : Op, vs = [.int .i64 o.kind, .int .i64 o.owner, .str o.name, .int .i64 o.mode] := by
  cases n with
  | zero => cases h
  | succ n =>
    unfold TyC at h
    rw [Try.underlying27] at h
    obtain ⟨hl, hf⟩ := h
    rw [show Try.prog.cellsOf 27 = 4 by kernel_rfl] at hl
    simp only [List.mem_cons, forall_eq_or_imp, List.not_mem_nil, false_implies, implies_true, and_true, show Try.prog.cellsOf 3 = 1 by kernel_rfl, show Try.prog.cellsOf 9 = 1 by kernel_rfl] at hf
    obtain ⟨h0, h1, h2, h3⟩ := hf
    obtain ⟨k, e0, _⟩ := tInt h0
    obtain ⟨p, e1, _⟩ := tInt h1
    obtain ⟨s, e2, _⟩ := tStr h2
    obtain ⟨m, e3, _⟩ := tInt h3
    match vs, hl, e0, e1, e2, e3 with
    | [b0, b1, b2, b3], _, e0, e1, e2, e3 =>
      simp at e0 e1 e2 e3
      exact ⟨⟨k, p, s, m⟩, by rw [e0, e1, e2, e3]⟩
theorem aOp0 {n : Nat} {x : V} (h : ArgT Try.prog n 27 x) : ∃ cs, x = .agg cs ∧ TyC Try.prog n 27 cs := by
  obtain ⟨cs, rfl⟩ := h.agg (by rw [Try.underlying27]; rfl)
  exact ⟨cs, rfl, h.1⟩
theorem aOp' {n : Nat} {x : V} (h : ArgT Try.prog n 27 x) : ∃ o : Op, x = opV o ∧ (fun _ => True) o := by
  obtain ⟨cs, rfl, hC⟩ := aOp0 h
  obtain ⟨o, rfl⟩ := tOp hC
  exact ⟨o, rfl, trivial⟩
theorem lOps : ∀ {l : List V}, (∀ x ∈ l, ∃ m : Op, x = (opV) m ∧ (fun _ => True) m) → ∃ ms : List Op, l = ms.map (opV) ∧ ∀ m ∈ ms, (fun _ => True) m
  | [], _ => ⟨[], rfl, by simp⟩
  | x :: l, h => by
    obtain ⟨a, rfl, ha⟩ := h x (by simp)
    obtain ⟨ms, rfl, hb⟩ := lOps (fun y hy => h y (by simp [hy]) : ∀ y ∈ l, _)
    refine ⟨a :: ms, rfl, fun m hm => ?_⟩
    rcases List.mem_cons.1 hm with rfl | hm
    · exact ha
    · exact hb m hm
theorem tOps {n : Nat} {vs : List V} (h : TyC Try.prog n 22 vs) : ∃ ms : List Op, vs = [.sl (ms.map (opV))] ∧ ms.length ≤ maxLen ∧ ∀ m ∈ ms, (fun _ => True) m := by
  cases n with
  | zero => cases h
  | succ n =>
    unfold TyC at h
    rw [Try.underlying22] at h
    obtain ⟨l, rfl, hl, hx⟩ := h
    obtain ⟨ms, rfl, hm⟩ := lOps fun x hm => aOp' (n := n) (hx x hm)
    exact ⟨ms, rfl, by simpa using hl, hm⟩
theorem aOps {n : Nat} {x : V} (h : ArgT Try.prog n 22 x) : ∃ ms : List Op, x = .sl (ms.map (opV)) ∧ ms.length ≤ maxLen ∧ ∀ m ∈ ms, (fun _ => True) m := by
  have h2 := h.leaf (by rw [Try.underlying22]; rfl)
  obtain ⟨m, e, w⟩ := tOps h.1
  exact ⟨m, by rw [h2] at e; simpa using e, w⟩
theorem own : ownKnob Try.prog.godebug = none := by kernel_rfl
theorem args1 {P : Program} {n : Nat} {t : TypeId} {xs : List V} (h : ArgsT P n [t] xs) : ∃ a, xs = [a] ∧ ArgT P n t a := by
  match xs, h with
  | [a], h => exact ⟨a, rfl, h.1⟩
theorem args2 {P : Program} {n : Nat} {t t' : TypeId} {xs : List V} (h : ArgsT P n [t, t'] xs) : ∃ a b, xs = [a, b] ∧ ArgT P n t a ∧ ArgT P n t' b := by
  match xs, h with
  | [a, b], h => exact ⟨a, b, rfl, h.1, h.2.1⟩
theorem len1 {α : Type} {l : List α} (h : l.length = 1) : ∃ a, l = [a] := by
  match l, h with
  | [a], _ => exact ⟨a, rfl⟩
theorem len2 {α : Type} {l : List α} (h : l.length = 2) : ∃ a b, l = [a, b] := by
  match l, h with
  | [a, b], _ => exact ⟨a, b, rfl⟩
theorem lockDrop_args (xs : List V) (h : ArgsT cfgB.P 6 Try.f8.params.toList xs) : pcW cfgB 8 xs = some (.bool true) := by
  rw [Try.params8] at h
  obtain ⟨a, b, rfl, ha, hb⟩ := args2 h
  obtain ⟨p, rfl, _⟩ := aOps ha
  obtain ⟨q, rfl, _⟩ := aInt hb
  exact lockDrop_ok p q
set_option maxRecDepth 100000 in
theorem lockDrop_lifted (os : Os) (started : os.Started) (H : Type) (enc : TypeId × Value → H) :
    ReturnsInHanded {} Try.checked os 8 .any (Rows.lockDropSpec.pre6 enc Try.prog Try.f8 Rows.lockDropRow.domain false) (Rows.lockDropSpec.post enc Try.prog Try.f8 false true false false) := by
  refine returnsInHanded_of_change (C := Try.checked) own started (by kernel_rfl) Try.func8
    (ChangeSpec.witness6 (enc := enc) (C := Try.checked) false ⟨#[], #[.slice none 0 0, .int .i64 0], []⟩ 8 (by kernel_rfl) (by kernel_rfl) (by kernel_rfl) (by kernel_rfl)) ?_
  intro W base args ds gs before hval hW _ _
  exact law_contract hok 6 (by kernel_rfl) (by kernel_rfl) (s := Rows.lockDropSpec) rfl (by kernel_rfl) (tb := 4) (by kernel_rfl) Try.underlying4
    (fun H ds h => by
      obtain ⟨a, b, rfl⟩ := len2 (h.trans (by rw [Try.params8]; rfl))
      rfl) lockDrop_args W base args ds gs before hval hW
theorem lockDrop_holds : Rows.LockDropSaid :=
  OpenClaim.holds_of_wide 8 Try.f8 rfl rfl rfl rfl rfl rfl rfl ⟨rfl, rfl, rfl, rfl, rfl⟩ rfl rfl rfl rfl rfl (by kernel_rfl) Try.func8 (by kernel_rfl)
    (of_decide_eq_true (by kernel_rfl)) (by unfold Func.isWrapper; first | (rw [if_pos (by decide +kernel)]; kernel_rfl) | (rw [if_neg (by decide +kernel)]; exact ⟨rfl, rfl⟩))
    (fun os started H enc _ => lockDrop_lifted os started H enc)
end Go.Proofs.Ytpkeiaeaonmacaa
