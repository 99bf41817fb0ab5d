/-
  Calls: the law of a call.
-/
import Derived.Test.YtknapnnpmfhogaaLiteC
namespace Go.Lite
open Go Go.MapKept
section
variable {P : Program} {Z Z' : Zs} {w w' : World} {j j' : J} {mem mem' : List O}
theorem noLead_any {v : V} {u : Value} (h : leads v = false) (hv : VR Z w j v u) (Z' : Zs) (w' : World) (j' : J) : VR Z' w' j' v u := by
  cases v with
  | sl l => simp [leads] at h
  | fr t els => cases hv
  | _ => cases hv <;> first | (simp [leads] at h; done) | constructor
theorem noLeadX {v : V} {u : Value} (h : leadsX v = false) (hv : VR Z w j v u) (Z' : Zs) (w' : World) (j' : J) : VR Z' w' j' v u := by
  cases v with
  | agg cs =>
    obtain ⟨us, rfl, hr⟩ := hv.aggInv
    refine LR.aggMk ⟨hr.1, fun i c hc => ?_⟩
    obtain ⟨u, hu, hvv⟩ := hr.2 i c hc
    have : leads c = false := by
      simp only [leadsX, List.any_eq_false] at h
      simpa using h c (List.mem_of_getElem? hc)
    exact ⟨u, hu, noLead_any this hvv Z' w' j'⟩
  | _ => exact noLead_any (by simpa [leadsX] using h) hv Z' w' j'
theorem flat_any {v : V} {u : Value} (h : VR Z w j0 v u) (hf : v.flat1 = true) : VR Z' w j0 v u := by
  cases h <;> first | (simp [V.flat1] at hf; done) | constructor
theorem RowAt.flatZ {h : Han} {t : TypeId} {els : List V} (r : RowAt P Z w h t els 0) (hf : ∀ x ∈ els, ∀ y ∈ x.cells, y.flat1 = true) (hz : ∀ g, h.blk = some g → ∀ o, ¬ Z' g o) : RowAt P Z' w h t els 0 := by
  obtain ⟨h1, h2, h3, h4, h5⟩ := r
  refine ⟨h1, h2, h3, h4, ?_⟩
  rcases h5 with h5 | ⟨g, b, c, us, hu, hlc, hcm, hg, hb, hcells, hz1, hz2⟩
  · exact .inl h5
  · have hbk : h.blk = some g := by cases h; simp at hu; subst hu; rfl
    refine .inr ⟨g, b, c, us, hu, hlc, hcm, hg, hb, fun k x hk i y hy => ?_, fun o ho => (hz g hbk o ho).elim, fun o ho => by omega⟩
    obtain ⟨q1, u0, q2, q3⟩ := hcells k x hk i y hy
    have hyf := hf x (List.mem_of_getElem? hk) y (List.mem_of_getElem? hy)
    exact ⟨q1, u0, q2, flat_any q3 hyf⟩
theorem rowSl {h : Han} {t : TypeId} {els : List V} {fz : Nat} {A : Option Addr} {n c : Nat} (r : RowAt P Z w h t els fz) (hu : h.u = .slice A n c) (hz : ZExt Z w Z' w) (hzz : ∀ g, h.blk = some g → ∀ o, Z' g o) : VR Z' w j (.sl els) (.slice A n c) := by
  obtain ⟨h1, h2, h3, h4, h5⟩ := r
  rcases h5 with ⟨hv, he⟩ | ⟨g, b, c', us, hv, hlc, hcm, hg, hs, hcells, _⟩
  · rw [hu] at hv; cases hv; subst he; exact .sl0
  · have hbk : h.blk = some g := by cases h; simp at hv; subst hv; rfl
    rw [hu] at hv; cases hv
    exact VR.slMk hlc h2 fun k x hk => ⟨h4 x (List.mem_of_getElem? hk), fun i _ => hzz g hbk _, (hcells k x hk).mono hz (JExt.refl _) rfl⟩
def Znew (Z : Zs) (w0 w1 : World) : Zs := { Z with z := fun g o => Z g o ∨ (w0.heap.size ≤ g ∧ g < w1.heap.size) }
theorem RR.one {Z2 : Zs} {w1 : World} {r : V} {u : Value} (h : RR P Z2 w w1 r u) (hn : ∀ vs, r ≠ .tup vs) : R1 P Z2 w w1 r u := by
  cases r <;> first | exact (hn _ rfl).elim | exact h
theorem RR.mk {Z2 : Zs} {w1 : World} {r : V} {u : Value} (h : R1 P Z2 w w1 r u) (hn : ∀ vs, r ≠ .tup vs) : RR P Z2 w w1 r u := by
  cases r <;> first | exact (hn _ rfl).elim | exact h
theorem freeze_ar {i k : Nat} {o : O} (h : (freeze mem i)[k]? = some o) : ∃ o0, mem[k]? = some o0 ∧ o.ar = o0.ar := by
  unfold freeze at h
  split at h
  · rename_i t els fz hm
    by_cases e : i = k
    · subst e; rw [List.getElem?_set_self (List.getElem?_eq_some_iff.1 hm).1] at h; cases h; exact ⟨_, hm, rfl⟩
    · rw [List.getElem?_set_ne e] at h; exact ⟨o, h, rfl⟩
  · rename_i t v fz hm
    by_cases e : i = k
    · subst e; rw [List.getElem?_set_self (List.getElem?_eq_some_iff.1 hm).1] at h; cases h; exact ⟨_, hm, rfl⟩
    · rw [List.getElem?_set_ne e] at h; exact ⟨o, h, rfl⟩
  · exact ⟨o, h, rfl⟩
theorem noA.freeze {t : TypeId} {i : Nat} (h : noA t mem) : noA t (freeze mem i) := by
  intro k o n ho hr
  obtain ⟨o0, h0, e⟩ := freeze_ar ho
  exact h k o0 n h0 (e ▸ hr)
theorem noA.freezeAll {t : TypeId} : ∀ (ids : List Nat) {mem : List O}, noA t mem → noA t (freezeAll ids mem)
  | [], _, h => h
  | _ :: is, _, h => noA.freezeAll is h.freeze
theorem take1_false (mem : List O) (v : V) : (take1 false mem v).2 = mem := by cases v <;> rfl
theorem take_sound {w1 : World} {mem1 : List O} {Z2 : Zs} {r : V} {u : Value} {ad : Bool} (s1 : SR P Z2 w1 j mem1) (st : Stp Z w j mem Z2 w1 j mem1) (hown : ∀ g, Owned Z2 j mem1 g → g < w.heap.size) (hr : RR P Z2 w w1 r u) :
    PostOf P Z w j mem (takeT ad mem1 r).1 (takeT ad mem1 r).2 u w1 := by
  have hzn : ZExt Z2 w1 (Znew Z2 w w1) w1 := .of fun g o h => ⟨.inl h, rfl, rfl⟩
  have s3 : SR P (Znew Z2 w w1) w1 j mem1 := s1.world hzn (fun g hg => ⟨rfl, fun o => ⟨fun h => h.resolve_right fun h => by have := hown g hg; omega, .inl⟩⟩) (fun g o h => by
    rcases h with h | h
    · exact s1.zin g o h
    · exact h.2)
  have st3 : Stp Z w j mem (Znew Z2 w w1) w1 j mem1 := ⟨st.os, st.tape, st.output, st.size, fun g hg hn => ⟨(st.keep g hg hn).1, fun o => ⟨fun h => ((st.keep g hg hn).2 o).1 (h.resolve_right fun h => by omega), fun h => .inl (((st.keep g hg hn).2 o).2 h)⟩⟩, st.owned, st.z.trans hzn, st.ar⟩
  have one : ∀ (v : V) (x : Value), R1 P Z2 w w1 v x → VR (Znew Z2 w w1) w1 j (take1 false mem1 v).1 x := by
    intro v x hx
    cases v with
    | fr t els =>
      obtain ⟨A, n, c, rfl, hrow, hfl, hb, h0⟩ := hx
      exact rowSl hrow rfl hzn (fun g hg o => .inr (hb g hg))
    | _ => exact (VR.up hx j).mono hzn (JExt.refl _)
  cases r with
  | tup vs =>
    obtain ⟨us, rfl, hl, hh⟩ := hr
    refine ⟨Znew Z2 w w1, j, .tup (by simpa using hl) fun i c x hc hx => ?_, s3, st3, JExt.refl _⟩
    simp only [List.getElem?_map, Option.map_eq_some_iff] at hc
    obtain ⟨v, hv, rfl⟩ := hc
    exact one v x (hh i v x hv hx)
  | fr t els =>
    cases ad with
    | false => exact ⟨Znew Z2 w w1, j, one _ _ (RR.one hr (by intro vs h; cases h)), s3, st3, JExt.refl _⟩
    | true =>
      obtain ⟨A, n, c, rfl, hrow, hfl, hb, h0⟩ := hr
      have s4 := s1.add (h := ⟨.slice A n c, P.cellsOf t⟩) (o := .row t els 0) (fun g hg ho => by have := (hb g hg).1; have := hown g ho; omega) ⟨_, upd_same _ _ _, hrow⟩
      refine ⟨Z2, _, .own (upd_same _ _ _) h0, s4, ⟨st.os, st.tape, st.output, st.size, st.keep, fun g hg ho => ?_, st.z, fun t h => ⟨(st.ar t h).1.add rfl, (st.ar t h).2⟩⟩, s1.ext _⟩
      rcases Owned.add ho with ho | ho
      · exact st.owned g hg ho
      · have := (hb g ho).1; omega
  | _ => exact ⟨Znew Z2 w w1, j, one _ _ (RR.one hr (by intro vs h; cases h)), s3, st3, JExt.refl _⟩
theorem call_sound {cfg : Cfg} {call : CallF} (hp : PureOK cfg.P call.pc) (hi : ImpOK cfg.P call.ic) {dr : Bool} {f : FuncId} {args : List V} {us : List Value} {v : V} (s : SR cfg.P Z w j mem)
    (h : callA cfg call dr f args mem = some (v, mem')) (ha : VRs Z w j args us) :
    fnOk cfg.P f = true ∧ Calls cfg.P f us.toArray w fun e w1 => ∃ u, e = .returned u ∧ PostOf cfg.P Z w j mem v mem' u w1 := by
  unfold callA at h
  split at h
  · cases h
  · rename_i hok
    have hok' : fnOk cfg.P f = true := by simpa using hok
    refine ⟨hok', ?_⟩
    split at h
    · cases hs : mapO (snap3 mem) args with
      | none => simp [hs] at h
      | some as =>
        cases hpc : call.pc f as with
        | none => simp [hs, hpc] at h
        | some r =>
          simp only [hs, hpc, Option.bind_some] at h
          have hsn := snaps_sound s hs ha
          obtain ⟨sf, of⟩ := freezeAll_sound (args.flatMap (ids3 mem)) Z mem s
          refine (hp f as r hpc hok' _ w us sf.zin hsn).mono ?_
          rintro e w1 ⟨u, Z1, rfl, hrr, st⟩
          refine ⟨u, rfl, ?_⟩
          have hzs : ZExt Z w (Zor Z (Fz cfg.P j mem (args.flatMap (ids3 mem)))) w := ZExt.or _ _ _
          have hz1 : ZExt (Zor Z (Fz cfg.P j mem (args.flatMap (ids3 mem)))) w Z1 w1 := .of (fun g o ho => by
            have hg := sf.zin g o ho
            exact ⟨((st.keep g hg).2 o).2 ho, same_block (st.keep g hg).1 o⟩) st.a st.i
          have hfz : ∀ g, ¬ Owned Z j mem g → ∀ o, Zor Z (Fz cfg.P j mem (args.flatMap (ids3 mem))) g o ↔ Z g o := fun g hg o => ⟨fun h => h.resolve_right fun ⟨id, _, hb, ho⟩ => hg (objLen_block s hb ho), .inl⟩
          by_cases hl : leadsT r = true
          · -- what was handed over stays as it is from here on
            have s1 : SR cfg.P Z1 w1 j (freezeAll (args.flatMap (ids3 mem)) mem) := sf.world hz1 (fun g hg => st.keep g (Owned.lt sf hg)) st.zin st.a
            have st1 : Stp Z w j mem Z1 w1 j (freezeAll (args.flatMap (ids3 mem)) mem) := ⟨st.os, st.tape, st.output, st.size, fun g hg hn => ⟨(st.keep g hg).1, fun o => ((st.keep g hg).2 o).trans (hfz g hn o)⟩, fun g _ ho => (of g).1 ((Owned.eqA st.a).1 ho), hzs.trans hz1, fun t h => ⟨h.freezeAll _, congrFun st.a t⟩⟩
            rw [if_pos hl] at h
            split at h
            · cases h
            · injection h with h
              have := take_sound (ad := cfg.adopt f && !dr) s1 st1 (fun g hg => Owned.lt s ((of g).1 ((Owned.eqA st.a).1 hg))) hrr
              rw [h] at this
              exact this
          · -- nothing leads there
            rw [if_neg hl] at h
            have hl' : leadsT r = false := by simpa using hl
            let Z2 : Zs := { Z with z := fun g o => (g < w.heap.size ∧ Z g o) ∨ (w.heap.size ≤ g ∧ Z1 g o) }
            have hz2 : ZExt Z w Z2 w1 := .of fun g o ho => ⟨.inl ⟨s.zin g o ho, ho⟩, same_block (st.keep g (s.zin g o ho)).1 o⟩
            have iff : ∀ g, g < w.heap.size → ∀ o, Z2 g o ↔ Z g o := fun g hg o => ⟨fun h => (h.resolve_right fun h => by omega).2, fun h => .inl ⟨hg, h⟩⟩
            have s1 : SR cfg.P Z2 w1 j mem := s.world hz2 (fun g hg => ⟨(st.keep g (Owned.lt s hg)).1, iff g (Owned.lt s hg)⟩) (fun g o ho => by
              rcases ho with ⟨h1, _⟩ | ⟨_, h2⟩
              · exact Nat.lt_of_lt_of_le h1 st.size
              · exact st.zin g o h2)
            have st1 : Stp Z w j mem Z2 w1 j mem := ⟨st.os, st.tape, st.output, st.size, fun g hg _ => ⟨(st.keep g hg).1, iff g hg⟩, fun _ _ ho => ho, hz2, fun _ h => ⟨h, rfl⟩⟩
            have one : ∀ (x : V) (y : Value), leadsX x = false → R1 cfg.P Z1 w w1 x y → R1 cfg.P Z2 w w1 x y := by
              intro x y hlx hx
              cases x with
              | fr t els =>
                obtain ⟨A, n, c, rfl, hrow, hfl, hb, h0⟩ := hx
                refine ⟨A, n, c, rfl, hrow.flatZ hfl (fun g hg o ho => ?_), hfl, hb, h0⟩
                obtain ⟨q1, q2, q3, q4, q5⟩ := hrow
                rcases ho with ho | ho
                · have := (hb g hg).1; omega
                · rcases q5 with ⟨q5, _⟩ | ⟨g', b, c', us', hu, _, _, _, _, _, hz1', _⟩
                  · simp at q5; obtain ⟨rfl, _⟩ := q5; simp [Han.blk] at hg
                  · simp at hu
                    obtain ⟨rfl, _⟩ := hu
                    simp [Han.blk] at hg
                    subst hg
                    have := hz1' o ho.2
                    omega
              | _ => exact noLeadX hlx hx _ _ _
            injection h with h
            have fin : RR cfg.P Z2 w w1 r u → PostOf cfg.P Z w j mem v mem' u w1 := fun hr => by
              have := take_sound (ad := cfg.adopt f && !dr) s1 st1 (fun g hg => Owned.lt s ((Owned.eqA rfl).1 hg)) hr
              rw [h] at this
              exact this
            refine fin ?_
            cases r with
            | tup vs =>
              obtain ⟨us', rfl, q1, q2⟩ := hrr
              refine ⟨us', rfl, q1, fun i x y hx hy => ?_⟩
              have hlx : leadsX x = false := by
                simp only [leadsT, List.any_eq_false] at hl'
                simpa using hl' x (List.mem_of_getElem? hx)
              exact one x y hlx (q2 i x y hx hy)
            | _ => exact RR.mk (one _ _ (by simpa [leadsT] using hl') (RR.one hrr (by intro vs h; cases h))) (by intro vs h; cases h)
    · split at h
      · cases h
      · split at h
        · exact hi f args mem v mem' h hok' Z w j us s ha
        · exact can_sound hi s h hok' ha
theorem keepFrom_get (S : List Nat) : ∀ (l : List O) (i : Nat), (keepFrom S i l).length = l.length ∧ ∀ k, (keepFrom S i l)[k]? = (l[k]?).map fun o => cond (S.contains (i + k)) o .dead
  | [], i => ⟨rfl, fun k => by simp [keepFrom]⟩
  | o :: l, i => by
    obtain ⟨h1, h2⟩ := keepFrom_get S l (i + 1)
    refine ⟨by simp [keepFrom, h1], fun k => ?_⟩
    cases k with
    | zero => simp [keepFrom]
    | succ k => simp only [keepFrom, List.getElem?_cons_succ, h2 k, show i + 1 + k = i + (k + 1) by omega]
theorem backFrom_get (S : List Nat) : ∀ (l m : List O) (i : Nat), l.length ≤ m.length → (backFrom S i l m).length = m.length ∧ ∀ k, (backFrom S i l m)[k]? = if k < l.length then (if S.contains (i + k) then m[k]? else l[k]?) else m[k]?
  | [], m, i, _ => ⟨rfl, fun k => by simp [backFrom]⟩
  | o :: l, [], i, h => by simp at h
  | o :: l, p :: m, i, h => by
    obtain ⟨h1, h2⟩ := backFrom_get S l m (i + 1) (by simpa using h)
    refine ⟨by simp [backFrom, h1], fun k => ?_⟩
    cases k with
    | zero => simp only [backFrom, List.getElem?_cons_zero, List.length_cons, Nat.zero_lt_succ, if_true, Nat.add_zero]; cases S.contains i <;> rfl
    | succ k => simp only [backFrom, List.getElem?_cons_succ, h2 k, show i + 1 + k = i + (k + 1) by omega, List.length_cons, Nat.succ_lt_succ_iff]
theorem keepOnly_get {S : List Nat} {mem : List O} {k : Nat} {o : O} (h : (keepOnly S mem)[k]? = some o) (hl : o.live = true) : mem[k]? = some o ∧ S.contains k = true := by
  have := (keepFrom_get S mem 0).2 k
  unfold keepOnly at h
  rw [this, Nat.zero_add] at h
  cases hm : mem[k]? with
  | none => rw [hm] at h; simp at h
  | some q =>
    rw [hm, Option.map_some] at h
    cases hc : S.contains k with
    | true => rw [hc] at h; cases h; exact ⟨rfl, rfl⟩
    | false => rw [hc] at h; cases h; cases hl
theorem SR.keepOnly (s : SR P Z w j mem) (S : List Nat) : SR P Z w j (Lite.keepOnly S mem) := by
  refine ⟨fun id o h => ?_, fun id id' o o' g h h' hl hl' => ?_, fun id h => s.out id (by have := (keepFrom_get S mem 0).1; unfold Lite.keepOnly at h; omega), s.zin⟩
  · cases hl : o.live with
    | true => exact s.obj id o (keepOnly_get h hl).1
    | false => cases o <;> first | exact True.intro | (cases hl)
  · exact s.inj id id' o o' g (keepOnly_get h hl).1 (keepOnly_get h' hl').1 hl hl'
theorem Owned.keepOnly {S : List Nat} {g : Nat} (h : Owned Z j (Lite.keepOnly S mem) g) : ∃ id o, mem[id]? = some o ∧ o.live = true ∧ Blk Z j id o g ∧ S.contains id = true := by
  obtain ⟨id, o, h1, h2, h3⟩ := h
  exact ⟨id, o, (keepOnly_get h1 h2).1, h2, h3, (keepOnly_get h1 h2).2⟩
theorem framed_sound {call : CallF} (hi : ImpOK P call.ic) {f : FuncId} {args : List V} {us : List Value} {v : V} (s : SR P Z w j mem) (h : framedA call f args mem = some (v, mem')) (hok : fnOk P f = true) (ha : VRs Z w j args us) :
    Calls P f us.toArray w fun e w1 => ∃ u, e = .returned u ∧ PostOf P Z w j mem v mem' u w1 := by
  unfold framedA at h
  obtain ⟨S, hS⟩ : ∃ S, S = args.flatMap ptrId := ⟨_, rfl⟩
  rw [← hS] at h
  split at h
  · cases h
  rename_i hall
  have hall : ∀ (id : Nat) (o : O), mem[id]? = some o → S.contains id = true → o.ar = none := fun id o hm hc => by
    have hall' : frOk S mem = true := by simpa using hall
    have := List.all_eq_true.1 hall' id (by simpa using hc)
    rw [hm] at this
    simpa [noArena] using this
  simp only [Option.bind_eq_some_iff] at h
  obtain ⟨⟨v1, m1⟩, h1, h2⟩ := h
  split at h2
  rotate_left
  · cases h2
  rename_i hle
  cases h2
  simp only at hle
  refine (hi f args _ v1 m1 h1 hok Z w j us (s.keepOnly S) ha).mono ?_
  rintro e w1 ⟨u, rfl, Z1, j1, q1, q2, q3, q4⟩
  have noAk : ∀ t, noA t (Lite.keepOnly S mem) := fun t id o n hm hr => by
    have := keepOnly_get hm (ar_live hr)
    rw [hall id o this.1 this.2] at hr; cases hr
  have za : Z1.a = Z.a := funext fun t => (q3.ar t (noAk t)).2
  have har1 : ∀ (id : Nat) (o : O), m1[id]? = some o → o.ar = none := fun id o hm => by
    cases hr : o.ar with
    | none => rfl
    | some r => exact ((q3.ar r.1 (noAk r.1)).1 id o r.2 hm hr).elim
  refine ⟨u, rfl, Z1, j1, q1, ?_, ?_, q4⟩
  · -- the memory
    obtain ⟨b1, b2⟩ := backFrom_get S mem m1 0 hle
    have get : ∀ id o, (putBack S mem m1)[id]? = some o → (m1[id]? = some o ∧ (id < mem.length → S.contains id = true)) ∨ (id < mem.length ∧ S.contains id = false ∧ mem[id]? = some o) := by
      intro id o h
      unfold putBack at h
      rw [b2 id, Nat.zero_add] at h
      split at h
      · rename_i hlt
        cases hc : S.contains id with
        | true => rw [if_pos hc] at h; exact .inl ⟨h, fun _ => rfl⟩
        | false => rw [if_neg (by rw [hc]; simp)] at h; exact .inr ⟨hlt, rfl, h⟩
      · rename_i hlt; exact .inl ⟨h, fun hh => (hlt hh).elim⟩
    have blk : ∀ (id : Nat) (o : O) (g : Nat), mem[id]? = some o → o.live = true → Blk Z1 j1 id o g → Blk Z j id o g := by
      intro id o g hm hl hb
      unfold Blk at hb ⊢
      cases hr : o.ar with
      | none =>
        rw [hr] at hb
        obtain ⟨h, hh⟩ := s.han hm hl hr
        simp only [blkOf, q4 _ _ hh] at hb
        simp only [blkOf, hh]
        exact hb
      | some r =>
        rw [hr] at hb
        simp only at hb ⊢
        rw [za] at hb
        exact hb
    have notOwned : ∀ (id : Nat) (o : O) (g : Nat), mem[id]? = some o → o.live = true → Blk Z j id o g → S.contains id = false → ¬ Owned Z j (Lite.keepOnly S mem) g := by
      intro id o g hm hl hb hc ho
      obtain ⟨id', o', e1, e2, e3, e4⟩ := ho.keepOnly
      have := s.inj id id' o o' g hm e1 hl e2 hb e3
      subst this
      rw [hc] at e4; cases e4
    have lt : ∀ (id : Nat) (o : O) (g : Nat), mem[id]? = some o → o.live = true → Blk Z j id o g → g < w.heap.size := fun id o g hm hl hb => Owned.lt s ⟨id, o, hm, hl, hb⟩
    have cross : ∀ (id id' : Nat) (o o' : O) (g : Nat), mem[id]? = some o → S.contains id = false → m1[id']? = some o' → o.live = true → o'.live = true → Blk Z1 j1 id o g → Blk Z1 j1 id' o' g → False := by
      intro id id' o o' g hm hc hm' hl hl' hb hb'
      have hb := blk id o g hm hl hb
      exact notOwned id o g hm hl hb hc (q3.owned g (lt id o g hm hl hb) ⟨id', o', hm', hl', hb'⟩)
    refine ⟨fun id o h => ?_, fun id id' o o' g h h' hl hl' hb hb' => ?_, fun id h => q2.out id (by have h' : (backFrom S 0 mem m1).length ≤ id := h; rw [b1] at h'; exact h'), q2.zin⟩
    · rcases get id o h with ⟨h, _⟩ | ⟨hlt, hc, hm⟩
      · exact q2.obj id o h
      · cases hl : o.live with
        | false => cases o <;> first | exact True.intro | (cases hl)
        | true =>
          refine (s.obj id o hm).mono q3.z q4 (fun g hg => ?_) (fun t n _ => congrFun za t)
          exact q3.keep g (lt id o g hm hl hg) (notOwned id o g hm hl hg hc)
    · rcases get id o h with ⟨h, _⟩ | ⟨hlt, hc, hm⟩
      · rcases get id' o' h' with ⟨h', _⟩ | ⟨hlt', hc', hm'⟩
        · exact q2.inj id id' o o' g h h' hl hl' hb hb'
        · exact (cross id' id o' o g hm' hc' h hl' hl hb' hb).elim
      · rcases get id' o' h' with ⟨h', _⟩ | ⟨hlt', hc', hm'⟩
        · exact (cross id id' o o' g hm hc h' hl hl' hb hb').elim
        · exact s.inj id id' o o' g hm hm' hl hl' (blk id o g hm hl hb) (blk id' o' g hm' hl' hb')
  · -- the step
    refine ⟨q3.os, q3.tape, q3.output, q3.size, fun g hg hn => q3.keep g hg fun ho => ?_, fun g hg ho => ?_, q3.z, fun t hno => ⟨fun id o n h hr => ?_, congrFun za t⟩⟩
    · obtain ⟨id, o, e1, e2, e3, _⟩ := ho.keepOnly
      exact hn ⟨id, o, e1, e2, e3⟩
    · obtain ⟨id, o, h, hl, hb⟩ := ho
      obtain ⟨b1, b2⟩ := backFrom_get S mem m1 0 hle
      unfold putBack at h
      rw [b2 id, Nat.zero_add] at h
      have inM1 : m1[id]? = some o → Owned Z j mem g := fun h => by
        obtain ⟨id', o', e1, e2, e3, _⟩ := (q3.owned g hg ⟨id, o, h, hl, hb⟩).keepOnly
        exact ⟨id', o', e1, e2, e3⟩
      split at h
      · cases hc : S.contains id with
        | true => rw [if_pos hc] at h; exact inM1 h
        | false =>
          rw [if_neg (by rw [hc]; simp)] at h
          refine ⟨id, o, h, hl, ?_⟩
          unfold Blk at hb ⊢
          cases hr : o.ar with
          | none =>
            rw [hr] at hb
            obtain ⟨hh, he⟩ := s.han h hl hr
            simp only [blkOf, q4 _ _ he] at hb
            simpa only [blkOf, he] using hb
          | some r =>
            rw [hr] at hb
            simp only at hb ⊢
            rw [za] at hb
            exact hb
      · exact inM1 h
    · obtain ⟨b1, b2⟩ := backFrom_get S mem m1 0 hle
      unfold putBack at h
      rw [b2 id, Nat.zero_add] at h
      split at h
      · split at h
        · rw [har1 id o h] at hr; cases hr
        · exact hno id o n h hr
      · rw [har1 id o h] at hr; cases hr
end
end Go.Lite