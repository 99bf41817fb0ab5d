/-
  What stays true of the pages; the calls that are written out.
-/
import Derived.Test.YtknapnnpmfhogaaP9
namespace Go.Proofs.Ytknapnnpmfhogaa
open Go Go.Lite
set_option linter.unusedSimpArgs false
set_option linter.unusedVariables false
set_option linter.unnecessarySimpa false
set_option maxRecDepth 10000
section
variable {p : Int} {ar a1 : List V} {pl sure n : Int} {ks : List Int} {ix : Int → Nat} {L : List Pg} {ws : Ws} {z : Nat}
theorem Good.gd (g : Good pl n L ws) : Gd n L ws := ⟨g.bs, g.pg, g.ok⟩
theorem freeS_ok {L' : List Pg} {ws' : Ws} (g : Good pl n L ws) (h : freeS pl sure L ws = some (L', ws')) : wsOk ws' ∧ ws'.length ≤ ws.length + 1 := by
  unfold freeS at h
  split at h
  · cases h; exact ⟨g.ok, by omega⟩
  · obtain ⟨c, hc, e⟩ := Option.map_eq_some_iff.1 h
    cases e
    split
    · refine ⟨fun w hw => ?_, by simp⟩
      rcases List.mem_append.1 hw with hw | hw
      · exact g.ok w hw
      · simp only [List.mem_singleton] at hw
        rw [hw]; exact g.bs c (List.mem_of_find?_eq_some hc)
    · exact ⟨g.ok, by omega⟩
theorem Good.pin (g : Good pl n L ws) (hn : (pgs L).Nodup) (p : Int) : Good pl n (pinS pl sure n L ws p).2.2.1 (pinS pl sure n L ws p).2.2.2 ∧ (pinS pl sure n L ws p).2.2.2.length ≤ ws.length + 1 := by
  unfold pinS
  split
  · rename_i hr
    cases hf : findP L p with
    | some x =>
      obtain ⟨hx, rfl⟩ := findP_some hf
      have hl := (cut_perm hn hx).length_eq
      simp only [List.length_append, List.length_singleton] at hl
      refine ⟨⟨?_, g.pl, ?_, ?_, g.ok⟩, by simp⟩
      · have := g.len; simp; omega
      · intro y hy
        rcases List.mem_append.1 hy with hy | hy
        · exact g.bs y (List.mem_filter.1 hy).1
        · simp only [List.mem_singleton] at hy; rw [hy]; exact g.bs x hx
      · intro y hy
        rcases List.mem_append.1 hy with hy | hy
        · exact g.pg y (List.mem_filter.1 hy).1
        · simp only [List.mem_singleton] at hy; rw [hy]; exact g.pg x hx
    | none =>
      cases hq : freeS pl sure L ws with
      | none => exact ⟨g, by simp⟩
      | some r =>
        obtain ⟨L', ws'⟩ := r
        have h1 := freeS_pgs hq
        have h2 := freeS_len hn g.len hq
        have h3 := freeS_ok g hq
        refine ⟨⟨?_, g.pl, ?_, ?_, h3.1⟩, h3.2⟩
        · simp; omega
        · intro y hy
          rcases List.mem_append.1 hy with hy | hy
          · exact g.bs y (h1 y hy)
          · simp only [List.mem_singleton] at hy; rw [hy]; exact cont_len g.ok p
        · intro y hy
          rcases List.mem_append.1 hy with hy | hy
          · exact g.pg y (h1 y hy)
          · simp only [List.mem_singleton] at hy; rw [hy]; exact hr
  · exact ⟨g, by simp⟩
theorem Good.upd (g : Good pl n L ws) {f : Pg → Pg} (h1 : ∀ x, (f x).page = x.page) (h2 : ∀ x ∈ L, (f x).s.length = 252) (p : Int) : Good pl n (updP L p f) ws := by
  refine ⟨by have := g.len; simpa [updP] using this, g.pl, ?_, ?_, g.ok⟩
  · intro y hy
    obtain ⟨w, hw, e | ⟨e, _⟩⟩ := mem_upd hy
    · exact e ▸ g.bs w hw
    · rw [e]; exact h2 w hw
  · intro y hy
    obtain ⟨w, hw, e | ⟨e, _⟩⟩ := mem_upd hy
    · exact e ▸ g.pg w hw
    · rw [e, h1]; exact g.pg w hw
theorem Good.unpin (g : Good pl n L ws) (p : Int) : Good pl n (if heldE L p = 0 then updP L p fun y => { y with pins := W .i64 (y.pins - 1) } else L) ws := by
  split
  · exact g.upd (f := fun y => { y with pins := W .i64 (y.pins - 1) }) (fun _ => rfl) (fun x hx => g.bs x hx) p
  · exact g
theorem Good.put (g : Good pl n L ws) (p : Int) (s : Bs) (lsn : Int) : Good pl n (if putE L p s lsn = 0 then updP L p (putX s lsn) else L) ws := by
  split
  · rename_i h
    have hs : s.length ≤ 252 := by
      unfold putE at h
      split at h
      · split at h
        · cases h
        · omega
      · rename_i h2; exact absurd h h2
    exact g.upd (f := putX s lsn) (fun _ => rfl) (fun x hx => padW_len hs) p
  · exact g
theorem Good.mt (hp : 0 ≤ pl ∧ pl ≤ 64) : Good pl n [] [] := ⟨by simp; omega, hp.2, by simp, by simp, by intro w hw; cases hw⟩
theorem Rep.mt : Rep [] [] (fun _ => 0) [] := ⟨.refl _, by simp [pgs], by simp, by simp⟩
theorem pin_at (h : Rep ar ks ix L) (g : Good pl n L ws) (hw : ws.length ≤ 100000) {s : Bs} {e : Int} {L' : List Pg} {ws' : Ws} (hp : pinS pl sure n L ws p = (s, e, L', ws')) :
    ∃ ar' ks' ix' z', Rep ar' ks' ix' L' ∧ Good pl n L' ws' ∧
      icC qcfg ⟨false, false⟩ 9 [.ptr 2 0 0, .int .i64 p] (plm ar a1 pl sure n (mpV ks ix) (pgs L) ws z) = some (mk9 (s, e, ar', a1, pl, sure, n, mpV ks' ix', [], ints (pgs L'), wsV ws', z')) := by
  obtain ⟨ar', ks', ix', z', h1, h2⟩ := pin_ok (a1 := a1) (sure := sure) (z := z) h g hw p
  have hg := (g.pin (sure := sure) h.nd p).1
  rw [hp] at h1 h2 hg
  exact ⟨ar', ks', ix', z', h1, hg, h2⟩
theorem unpin_at (h : Rep ar ks ix L) (g : Good pl n L ws) {e : Int} {L' : List Pg} (he : heldE L p = e) (hl : (if heldE L p = 0 then updP L p fun y => { y with pins := W .i64 (y.pins - 1) } else L) = L') :
    ∃ ar', Rep ar' ks ix L' ∧ Good pl n L' ws ∧ pgs L' = pgs L ∧
      icC qcfg ⟨true, false⟩ 10 [.ptr 2 0 0, .int .i64 p] (plm ar a1 pl sure n (mpV ks ix) (pgs L) ws z) = some (mk10 (e, ar', a1, pl, sure, n, mpV ks ix, ints (pgs L'), [], wsV ws, z)) := by
  obtain ⟨ar', h1, h2⟩ := unpin_ok (a1 := a1) (pl := pl) (sure := sure) (n := n) (ws := ws) (z := z) h p
  have hg := g.unpin p
  have hpg : pgs L' = pgs L := by
    rw [← hl]
    split
    · exact pgs_upd fun _ => rfl
    · rfl
  rw [hl] at h1 hg
  rw [he] at h2
  exact ⟨ar', h1, hg, hpg, by rw [hpg]; exact h2⟩
theorem put_at (h : Rep ar ks ix L) (g : Good pl n L ws) {s : Bs} {lsn : Int} {e : Int} {L' : List Pg} (he : putE L p s lsn = e) (hl : (if putE L p s lsn = 0 then updP L p (putX s lsn) else L) = L') :
    ∃ ar', Rep ar' ks ix L' ∧ Good pl n L' ws ∧ pgs L' = pgs L ∧
      icC qcfg ⟨true, false⟩ 11 [.ptr 2 0 0, .int .i64 p, .str s, .int .i64 lsn] (plm ar a1 pl sure n (mpV ks ix) (pgs L) ws z) = some (mk11 (e, ar', a1, pl, sure, n, mpV ks ix, ints (pgs L'), [], wsV ws, z)) := by
  obtain ⟨ar', h1, h2⟩ := put_ok' (a1 := a1) (pl := pl) (sure := sure) (n := n) (ws := ws) (z := z) h p s lsn
  have hg := g.put p s lsn
  have hpg : pgs L' = pgs L := by
    rw [← hl]
    split
    · exact pgs_upd fun _ => rfl
    · rfl
  rw [hl] at h1 hg
  rw [he] at h2
  exact ⟨ar', h1, hg, hpg, by rw [hpg]; exact h2⟩
def fx0 : Pg := newX [] 0
def fx1 : Pg := putX [97] 5 fx0
def fx2 : Pg := { fx1 with pins := W .i64 (fx1.pins - 1) }
def fx3 : Pg := newX [] 1
theorem perm_one {ks : List Int} {a : Int} (h : ks.Perm [a]) : ks = [a] := List.perm_singleton.1 h
theorem fixed_run {v : V} {m : List O} (h : e17 = some (.doneM v m)) (hf : v.flat1 = true) : pcW qcfg 17 [] = some v :=
  pcW_goA qik rfl fa17_eq rfl hf rfl rfl (e17_eq.trans h) (.refl _)
theorem srt_one (a : Int) : srt [a] = [a] := by simp [srt]
theorem fixed_ok : ∃ m, e17 = some (.doneM (.bool true) m) := by
  have g0 : Good 1 4 [] [] := .mt (by decide)
  obtain ⟨ar1, ks1, ix1, z1, r1, g1, c1⟩ := pin_at (a1 := []) (sure := 0) (p := 4) (z := 0) Rep.mt g0 (by simp) (s := []) (e := 1) (L' := []) (ws' := []) rfl
  obtain ⟨ar2, ks2, ix2, z2, r2, g2, c2⟩ := pin_at (a1 := []) (sure := 0) (p := 0) (z := z1) r1 g1 (by simp) (s := cont [] 0) (e := 0) (L' := [fx0]) (ws' := []) rfl
  obtain ⟨ar3, r3, g3, -, c3⟩ := put_at (a1 := []) (sure := 0) (p := 0) (z := z2) r2 g2 (s := [97]) (lsn := 5) (e := 0) (L' := [fx1]) rfl rfl
  obtain ⟨ar4, r4, g4, -, c4⟩ := put_at (a1 := []) (sure := 0) (p := 0) (z := z2) r3 g3 (s := [98]) (lsn := 4) (e := 1) (L' := [fx1]) rfl rfl
  obtain ⟨ar5, r5, g5, -, c5⟩ := put_at (a1 := []) (sure := 0) (p := 1) (z := z2) r4 g4 (s := [99]) (lsn := 5) (e := 7) (L' := [fx1]) rfl rfl
  obtain ⟨ar6, ks6, ix6, z6, r6, g6, c6⟩ := pin_at (a1 := []) (sure := 0) (p := 1) (z := z2) r5 g5 (by simp) (s := []) (e := 6) (L' := [fx1]) (ws' := []) rfl
  obtain ⟨ar7, r7, g7, -, c7⟩ := unpin_at (a1 := []) (sure := 0) (p := 0) (z := z6) r6 g6 (e := 0) (L' := [fx2]) rfl rfl
  obtain ⟨ar8, r8, g8, -, c8⟩ := unpin_at (a1 := []) (sure := 0) (p := 0) (z := z6) r7 g7 (e := 9) (L' := [fx2]) rfl rfl
  obtain ⟨ar9, ks9, ix9, z9, r9, g9, c9⟩ := pin_at (a1 := []) (sure := 0) (p := 1) (z := z6) r8 g8 (by simp) (s := []) (e := 6) (L' := [fx2]) (ws' := []) rfl
  have k9 : ks9 = [0] := perm_one r9.perm
  have c10 := least_ok (a1 := []) (pl := 1) (sure := 0) (n := 4) (ws := []) (z := z9) r9 (by simp) (g9.in64 (by decide))
  have l10 : leastS ks9 [fx2] = (5, true) := by rw [k9]; unfold leastS dirtL; rw [srt_one]; rfl
  rw [l10] at c10
  obtain ⟨ar11, ks11, ix11, z11, r11, g11, c11⟩ := pin_at (a1 := []) (sure := 5) (p := 1) (z := z9) r9 g9 (by simp) (s := cont [] 1) (e := 0) (L' := [fx3]) (ws' := [(0, padW [97])]) rfl
  have k11 : ks11 = [1] := perm_one r11.perm
  have c12 := read_ok ar11 [] 4 [(0, padW [97])] z11 0 (by decide) (by decide) (by simp) g11.ok
  have c13 := pages_ok (a1 := []) (pl := 1) (sure := 5) (n := 4) (ws := [(0, padW [97])]) (z := 1) r11 (by simp) (g11.in64 (by decide))
  obtain ⟨k14, row14, q1, q2, q3, c14⟩ := dirty_ok (a1 := []) (pl := 1) (sure := 5) (n := 4) (ws := [(0, padW [97])]) (z := 1) r11 (by simp) (g11.in64 (by decide))
  have d14 : dirtL ks11 [fx3] = [] := by rw [k11]; unfold dirtL; rw [srt_one]; rfl
  have c15 := pins_ok (a1 := []) (pl := 1) (sure := 5) (n := 4) (ws := [(0, padW [97])]) (z := 1) r11 1
  have c16 := pins_ok (a1 := []) (pl := 1) (sure := 5) (n := 4) (ws := [(0, padW [97])]) (z := 1) r11 0
  obtain ⟨ar17, r17, c17⟩ := clean_ok (a1 := []) (pl := 1) (sure := 5) (n := 4) (ws := [(0, padW [97])]) (z := 1) r11 g11.gd (by simp) (g11.in64 (by decide)) (by simp)
  have s11 : srt ks11 = [1] := by rw [k11, srt_one]
  rw [s11] at c13 c17
  have f17 : cleanF 5 [1] ([fx3], [(0, padW [97])], 0) = ([fx3], [(0, padW [97])], 0) := rfl
  rw [f17] at c17
  rw [d14] at q1 q2
  simp only [List.length_nil] at q2
  subst q2
  have p18 := padR_ok [97] 252 (by decide)
  rw [padB_252 (by decide)] at p18
  have i35 : pcW qcfg 35 [.sl (ints [1]), .sl [.int .i64 1]] = some (.bool true) := intsR_ok [1] [1] (by decide)
  have c1' : icC qcfg ⟨false, false⟩ 9 [.ptr 2 0 0, .int .i64 4] [O.arena 63 [], O.arena 7 [], O.box 59 (V.agg [V.ptr 3 0 0, V.int .i64 1, V.mp 4, V.tail 5 0, V.int .i64 0]) false, O.box 56 (V.agg [V.int .i64 4, V.mp 6, V.tail 7 0]) false, O.map [], O.row 3 [] 0, O.map [], O.row 88 [] 0] = _ := c1
  apply Exists.intro
  unfold e17
  rw [icM_of mk9_inj c1']; dsimp only
  rw [icM_of mk9_inj c2]; dsimp only
  rw [icM_of mk11_inj c3]; dsimp only
  rw [icM_of mk11_inj c4]; dsimp only
  rw [icM_of mk11_inj c5]; dsimp only
  rw [icM_of mk9_inj c6]; dsimp only
  rw [icM_of mk10_inj c7]; dsimp only
  rw [icM_of mk10_inj c8]; dsimp only
  rw [icM_of mk9_inj c9]; dsimp only
  rw [icM_of mk22_inj c10]; dsimp only
  rw [show (if (0 : Int) < 5 then (5 : Int) else 0) = 5 from rfl]
  rw [icM_of mk9_inj c11]; dsimp only
  rw [icM_of mk15_inj c12]; dsimp only
  rw [pcK_of p18, d32_mk]
  have e12 : cont [(0, padW [97])] 0 = padW [97] := rfl
  rw [e12, show ([(0, padW [97])] : Ws).length = 1 from rfl]
  simp only [beq_self_eq_true, cond_true]
  rw [icM_of mk19_inj c13]; dsimp only
  rw [pcK_of i35, kB_mk, cond_true]
  rw [icM_of mk21_inj c14]; dsimp only
  rw [gd_of (by simp), List.drop_zero, q1, show (((ints []).length : Nat) : Int) = 0 from rfl]
  simp only [beq_self_eq_true, cond_true]
  have hp0 : ((findP [fx3] 1).map Pg.pins).getD 0 = 1 := rfl
  have hp1 : ((findP [fx3] 0).map Pg.pins).getD 0 = 0 := rfl
  rw [hp0] at c15
  rw [hp1] at c16
  rw [icM_of mk20_inj c15]; dsimp only
  simp only [beq_self_eq_true, cond_true]
  rw [icM_of mk20_inj c16]; dsimp only
  simp only [beq_self_eq_true, cond_true]
  rw [icM_of mk14_inj c17]; dsimp only
  rfl
theorem fixedL_ok : pcW qcfg 17 [] = some (.bool true) := by
  obtain ⟨m, h⟩ := fixed_ok
  exact fixed_run h rfl
end
end Go.Proofs.Ytknapnnpmfhogaa