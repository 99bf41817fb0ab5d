/-
  Pinning; the pages in order; writing all that may be written.
-/
import Derived.Test.YtknapnnpmfhogaaP6
namespace Go.Proofs.Ytknapnnpmfhogaa
open Go Go.Lite
set_option linter.unusedSimpArgs false
set_option linter.unusedVariables false
set_option linter.unnecessarySimpa false
set_option maxRecDepth 10000
section
variable {p : Int} {ar a1 : List V} {pl sure n : Int} {ks : List Int} {ix : Int → Nat} {L : List Pg} {ws : Ws} {z : Nat}
def pinX (x : Pg) : Pg := { x with pins := W .i64 (x.pins + 1) }
def newX (ws : Ws) (p : Int) : Pg := ⟨p, cont ws p, 1, false, 0, 0⟩
def pinS (pl sure n : Int) (L : List Pg) (ws : Ws) (p : Int) : Bs × Int × List Pg × Ws :=
  if 0 ≤ p ∧ p < n then
    match findP L p with
    | some x => (x.s, 0, cutP L p ++ [pinX x], ws)
    | none =>
      match freeS pl sure L ws with
      | none => ([], 6, L, ws)
      | some r => (cont ws p, 0, r.1 ++ [newX ws p], r.2)
  else ([], 1, L, ws)
theorem pgs_app (A B : List Pg) : pgs (A ++ B) = pgs A ++ pgs B := by simp [pgs]
theorem filter_out {l : List Int} {p : Int} (h : p ∉ l) : l.filter (· != p) = l := List.filter_eq_self.2 fun y hy => by
  have : y ≠ p := by rintro rfl; exact h hy
  simpa using this
theorem cut_ren {x x' : Pg} (h : Rep ar ks ix L) (hx : x ∈ L) (hp : x'.page = x.page) : Rep (ar.set (ix x.page) (placeV x')) ks ix (cutP L x.page ++ [x']) := by
  refine h.set hx hp ?_ ?_
  · have := (cut_perm h.nd hx).map Pg.page
    rw [pgs_app]
    simpa [pgs, hp] using this
  · intro y hy
    rcases List.mem_append.1 hy with hy | hy
    · have := List.mem_filter.1 hy
      exact .inr ⟨this.1, by simpa using this.2⟩
    · exact .inl (by simpa using hy)
theorem freeS_pgs {L' : List Pg} {ws' : Ws} (h : freeS pl sure L ws = some (L', ws')) : ∀ x ∈ L', x ∈ L := by
  unfold freeS at h
  split at h
  · cases h; exact fun x hx => hx
  · obtain ⟨c, hc, e⟩ := Option.map_eq_some_iff.1 h
    cases e
    intro x hx
    exact (List.mem_filter.1 hx).1
theorem freeS_len {L' : List Pg} {ws' : Ws} (hn : (pgs L).Nodup) (hl : (L.length : Int) ≤ pl) (h : freeS pl sure L ws = some (L', ws')) : (L'.length : Int) < pl := by
  unfold freeS at h
  split at h
  · cases h; assumption
  · obtain ⟨c, hc, e⟩ := Option.map_eq_some_iff.1 h
    cases e
    have hcm : c ∈ L := List.mem_of_find?_eq_some hc
    have := (cut_perm hn hcm).length_eq
    simp at this
    omega
theorem pin_ok (h : Rep ar ks ix L) (g : Good pl n L ws) (hw : ws.length ≤ 100000) (p : Int) :
    ∃ ar' ks' ix' z', Rep ar' ks' ix' (pinS pl sure n L ws p).2.2.1 ∧
      icC qcfg ⟨false, false⟩ 9 [.ptr 2 0 0, .int .i64 p] (plm ar a1 pl sure n (mpV ks ix) (pgs L) ws z) =
        some (mk9 ((pinS pl sure n L ws p).1, (pinS pl sure n L ws p).2.1, ar', a1, pl, sure, n, mpV ks' ix', [], ints (pgs (pinS pl sure n L ws p).2.2.1), wsV (pinS pl sure n L ws p).2.2.2, z')) := by
  by_cases hr : 0 ≤ p ∧ p < n
  case neg =>
    rw [show pinS pl sure n L ws p = ([], 1, L, ws) from if_neg hr]
    refine ⟨ar, ks, ix, z, h, ?_⟩
    by_cases h0 : p < 0
    · refine e9_run _ _ _ _ _ _ _ _ _ _ _ (o := .doneM ?v1 ?m1) ?h1 (.done ?n1)
      case h1 =>
        unfold e9
        rw [decide_eq_true h0, cond_true]
      case n1 => kernel_rfl
    · refine e9_run _ _ _ _ _ _ _ _ _ _ _ (o := .doneM ?v2 ?m2) ?h2 (.done ?n2)
      case h2 =>
        unfold e9
        rw [decide_eq_false h0, cond_false, decide_eq_true (show p ≥ n by omega), cond_true]
      case n2 => kernel_rfl
  case pos =>
    have hd0 : decide (p < 0) = false := decide_eq_false (by omega)
    have hd1 : decide (p ≥ n) = false := decide_eq_false (by omega)
    have hy := g.l100
    cases hf : findP L p with
    | some x =>
      have e : pinS pl sure n L ws p = (x.s, 0, cutP L p ++ [pinX x], ws) := by unfold pinS; rw [if_pos hr, hf]
      rw [e]
      obtain ⟨hx, rfl⟩ := findP_some hf
      refine ⟨_, ks, ix, z, cut_ren h hx (x' := pinX x) rfl, ?_⟩
      have hag : ints (pgs (cutP L x.page ++ [pinX x])) = ints ((pgs L).filter (· != x.page) ++ [x.page]) := by rw [pgs_app, pgs_cut]; rfl
      rw [hag]
      refine e9_run _ _ _ _ _ _ _ _ _ _ _ (o := .doneM ?v3 ?m3) ?h3 (.done ?n3)
      case h3 =>
        unfold e9
        rw [hd0, cond_false, hd1, cond_false, h.mf hx, kP_mk, icM_of mk26_inj (young_ok ar a1 pl sure n (mpV ks ix) (pgs L) ws z x.page (by rw [pgs_len]; omega))]
        dsimp only
        rw [h.mf hx, kP_mk, h.ax hx, d63_pl, h.ax hx, d63_pl, h.mf hx, kP_mk, set_ax h hx, d63_v]
        all_goals rfl
      case n3 => kernel_rfl
    | none =>
      have hrd := read_ok ar a1 n ws z p hr.1 hr.2 hw g.ok
      rcases free_ok (a1 := a1) (sure := sure) (z := ws.length) h g hw with ⟨f1, f2⟩ | ⟨L', ws', ar', ks', f1, f2, f3⟩
      · have e : pinS pl sure n L ws p = ([], 6, L, ws) := by unfold pinS; rw [if_pos hr, hf]; dsimp only; rw [f1]
        rw [e]
        refine ⟨ar, ks, ix, ws.length, h, ?_⟩
        refine e9_run _ _ _ _ _ _ _ _ _ _ _ (o := .doneM ?v4 ?m4) ?h4 (.done ?n4)
        case h4 =>
          unfold e9
          rw [hd0, cond_false, hd1, cond_false, h.mn hf, icM_of mk15_inj hrd]
          dsimp only
          rw [ibne_f rfl, cond_false, icM_of mk25_inj f2]
          dsimp only
          rw [ibne_t (by decide), cond_true]
        case n4 => kernel_rfl
      · have e : pinS pl sure n L ws p = (cont ws p, 0, L' ++ [newX ws p], ws') := by unfold pinS; rw [if_pos hr, hf]; dsimp only; rw [f1]
        rw [e]
        have hn : p ∉ pgs L' := fun hp => by
          obtain ⟨x, hx, e⟩ := List.mem_map.1 hp
          exact findP_none hf (List.mem_map.2 ⟨x, freeS_pgs f1 x hx, e⟩)
        have hl' : L'.length ≤ 100000 := by have := freeS_len h.nd g.len f1; have := g.pl; omega
        have ha := f2.add (x := ⟨p, cont ws p, 0, false, 0, 0⟩) hn
        have hm : (⟨p, cont ws p, 0, false, 0, 0⟩ : Pg) ∈ L' ++ [⟨p, cont ws p, 0, false, 0, 0⟩] := by simp
        have hcl : cutP (L' ++ [⟨p, cont ws p, 0, false, 0, 0⟩]) p = L' := by
          rw [cut_split ha.nd (c := ⟨p, cont ws p, 0, false, 0, 0⟩) (post := []) rfl, List.append_nil]
        have hfin := cut_ren ha hm (x' := newX ws p) rfl
        have hmp := mpV_add f2 (x := ⟨p, cont ws p, 0, false, 0, 0⟩) hn ar'.length
        rw [show (⟨p, cont ws p, 0, false, 0, 0⟩ : Pg).page = p from rfl] at hfin hmp
        rw [hcl] at hfin
        refine ⟨_, _, _, ws.length, hfin, ?_⟩
        have hag : ints (pgs (L' ++ [newX ws p])) = ints ((pgs L').filter (· != p) ++ [p]) := by rw [pgs_app, filter_out hn]; rfl
        rw [hag]
        refine e9_run _ _ _ _ _ _ _ _ _ _ _ (o := .doneM ?v5 ?m5) ?h5 (.done ?n5)
        case h5 =>
          unfold e9
          rw [hd0, cond_false, hd1, cond_false, h.mn hf, icM_of mk15_inj hrd]
          dsimp only
          rw [ibne_f rfl, cond_false, icM_of mk25_inj f3]
          dsimp only
          rw [ibne_f rfl, cond_false, put_out (fun hk => hn (f2.perm.mem_iff.1 hk)), opt_mk, hmp,
            icM_of mk26_inj (young_ok (ar' ++ [V.agg [V.str (cont ws p), V.int .i64 0, V.bool false, V.int .i64 0, V.int .i64 0]]) a1 pl sure n (mpV (ks' ++ [p]) (updI ix p ar'.length)) (pgs L') ws' ws.length p (by rw [pgs_len]; omega))]
          dsimp only
          have q1 := ha.mf hm
          have q2 := ha.ax hm
          have q3 := fun v k => set_ax ha hm v k
          dsimp only at q1 q2 q3
          rw [q1, kP_mk]
          change idxK (ar' ++ [placeV ⟨p, cont ws p, 0, false, 0, 0⟩]) _ _ = _
          rw [q2, d63_pl]
          dsimp only
          change idxK (ar' ++ [placeV ⟨p, cont ws p, 0, false, 0, 0⟩]) _ _ = _
          rw [q2, d63_pl, q1, kP_mk]
          change idxK ((ar' ++ [placeV ⟨p, cont ws p, 0, false, 0, 0⟩]).set _ _) _ _ = _
          rw [q3, d63_v]
          all_goals rfl
        case n5 => kernel_rfl
theorem keyInts_mp : ∀ ks : List Int, (∀ k ∈ ks, -9223372036854775808 ≤ k ∧ k ≤ 9223372036854775807) → keyInts (mpV ks ix) = some ks
  | [], _ => rfl
  | k :: ks, h => by
    have ih : keyInts (mpV ks ix) = some ks := keyInts_mp ks fun k hk => h k (by simp [hk])
    unfold keyInts mpV at *
    rw [List.map_cons]
    unfold mapO
    rw [ih]
    have e : keyI (ent ix k).1 = some k := if_pos (h k (by simp))
    rw [e]
    rfl
def In64 (L : List Pg) : Prop := ∀ x ∈ L, -9223372036854775808 ≤ x.page ∧ x.page ≤ 9223372036854775807
theorem Gd64 (hpg : ∀ x ∈ L, 0 ≤ x.page ∧ x.page < n) (hn : n ≤ 1000000) : In64 L := fun x hx => by have := hpg x hx; omega
theorem Good.in64 (g : Good pl n L ws) (hn : n ≤ 1000000) : In64 L := Gd64 g.pg hn
theorem pages_ok (h : Rep ar ks ix L) (hL : L.length ≤ 100000) (h64 : In64 L) :
    icC qcfg ⟨true, false⟩ 19 [.ptr 2 0 0] (plm ar a1 pl sure n (mpV ks ix) (pgs L) ws z) =
      some (mk19 (ar, a1, pl, sure, n, mpV ks ix, ints (pgs L), [], wsV ws, z, ints (srt ks))) := by
  refine e19_run _ _ _ _ _ _ _ _ _ _ (o := .doneM ?v1000 ?m1000) ?h1000 (.done ?n1000)
  case h1000 =>
    unfold e19
    rw [keyInts_mp _ (fun k hk => by
      obtain ⟨x, hx, e⟩ := List.mem_map.1 (h.perm.mem_iff.1 hk)
      exact e ▸ h64 x hx), opt_mk, gd_of (by have := h.perm.length_eq; rw [pgs_len] at this; simp; omega)]
  case n1000 => kernel_rfl
end
end Go.Proofs.Ytknapnnpmfhogaa