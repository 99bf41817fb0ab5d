/-
  The interpreter's operations on slices, pointers, parts: each one is what the model's operation does.
-/
import Derived.Test.YtknapnnpmfhogaaLite4
namespace Go.Lite
open Go
section
variable {P : Program} {Z Z' : Zs} {w w' : World} {j j' : J} {mem mem' : List O}
theorem add_none (g b n : Nat) : (⟨g, b, none⟩ : Addr).add n = ⟨g, b + n, none⟩ := by unfold Addr.add; split <;> simp_all
theorem tail_win (s : SR P Z w j mem) {id off fz : Nat} {t : TypeId} {els : List V} {u : Value} (hm : mem[id]? = some (.row t els fz)) (hv : VR Z w j (.tail id off) u) :
    off ≤ els.length ∧ VR Z w j (.win id off (els.length - off)) u := by
  cases hv with
  | tail hj hn h =>
    obtain ⟨hn', hh, h1, h2, h3, h4, h5⟩ := s.obj id _ hm
    rw [hj] at hh; cases hh
    have : ∀ (n' : Nat) (A A' : Option Addr) (c c' : Nat), Value.slice A n' c = .slice A' els.length c' → n' = els.length := fun _ _ _ _ _ e => by cases e; rfl
    rename_i n c sz A
    have hne : n = els.length := by
      rcases h5 with ⟨hu, he⟩ | ⟨g, b, c', us, hu, _⟩
      · simp only [Value.slice.injEq] at hu; subst he; exact hu.2.1
      · simp only [Value.slice.injEq] at hu; exact hu.2.1
    subst hne
    exact ⟨hn, h⟩
theorem tail_elems {id off fz : Nat} {t : TypeId} {els : List V} (hm : mem[id]? = some (.row t els fz)) (hn : off ≤ els.length) : elems mem (.win id off (els.length - off)) = some (els.drop off) := by
  simp only [elems, hm]
  rw [if_pos (by omega), List.take_of_length_le (by simp)]
theorem elems_sound0 (s : SR P Z w j mem) {x : V} {xs : List V} {u : Value} (h : elems mem x = some xs) (hv : VR Z w j x u) (ht : ∀ id off, x ≠ .tail id off) :
    ∃ A c, u = .slice A xs.length c ∧ (xs = [] ∨ ∃ g b sz, A = some ⟨g, b, none⟩ ∧ 0 < sz ∧ ∀ (k : Nat) (y : V), xs[k]? = some y → y.cells.length = sz ∧ CellsAt Z w j0 g (b + k * sz) y.cells) := by
  cases x with
  | nilS => simp [elems] at h; subst h; cases hv; exact ⟨_, _, rfl, .inl rfl⟩
  | sl l =>
    simp [elems] at h; subst h
    rcases hv.slInv with ⟨A, c, rfl, rfl⟩ | ⟨g, b, c, sz, rfl, _, hsz, hh⟩
    · exact ⟨_, _, rfl, .inl rfl⟩
    · exact ⟨_, _, rfl, .inr ⟨g, b, sz, rfl, hsz, fun k y hk => ⟨(hh k y hk).1, (hh k y hk).2.2⟩⟩⟩
  | lit t l =>
    simp [elems] at h; subst h
    cases hv with
    | lit hv =>
      rcases hv.slInv with ⟨A, c, rfl, he⟩ | ⟨g, b, c, sz, he, _, hsz, hh⟩
      · exact ⟨_, _, rfl, .inl rfl⟩
      · rw [he]
        exact ⟨_, _, rfl, .inr ⟨g, b, sz, rfl, hsz, fun k y hk => ⟨(hh k y hk).1, (hh k y hk).2.2⟩⟩⟩
  | own id =>
    simp only [elems] at h
    cases hm : mem[id]? with
    | none => simp [hm] at h
    | some o =>
      cases o <;> simp [hm] at h
      subst h
      rename_i t els fz
      obtain ⟨hn, hh, h1, h2, h3, h4, h5⟩ := s.obj id _ hm
      cases hv with
      | own hj =>
        rw [hj] at hh; cases hh
        rcases h5 with ⟨hu, he⟩ | ⟨g, b, c, us, hu, _, _, _, _, hcells, _⟩
        · cases hu; subst he; exact ⟨_, _, rfl, .inl rfl⟩
        · cases hu
          refine ⟨_, _, rfl, .inr ⟨g, b, _, rfl, h2, fun k y hk => ⟨h4 y (List.mem_of_getElem? hk), hcells k y hk⟩⟩⟩
  | win id off len =>
    simp only [elems] at h
    cases hm : mem[id]? with
    | none => simp [hm] at h
    | some o =>
      cases o <;> simp [hm] at h
      obtain ⟨hle, rfl⟩ := h
      rename_i t els fz
      obtain ⟨hn, hh, h1, h2, h3, h4, h5⟩ := s.obj id _ hm
      cases hv with
      | win hj hn hlc _ ha =>
        rw [hj] at hh; cases hh
        have hlen : ((els.drop off).take len).length = len := by simp; omega
        rw [hlen]
        refine ⟨_, _, rfl, ?_⟩
        by_cases h0 : len = 0
        · left; subst h0; simp
        · right
          rcases h5 with ⟨hu, he⟩ | ⟨g', b', c', us, hu, _, _, _, _, hcells, _⟩
          · subst he; simp at hle; omega
          · cases hu
            obtain ⟨g, b, o, hA, hA', _, ho⟩ := ha.resolve_left (fun h => by cases h.1)
            have ho := ho (by omega)
            subst ho
            cases hA
            refine ⟨_, _, _, hA', h2, fun k y hk => ?_⟩
            rw [List.getElem?_take] at hk
            split at hk
            · rw [List.getElem?_drop] at hk
              refine ⟨h4 y (List.mem_of_getElem? hk), ?_⟩
              have := hcells _ y hk
              rwa [Nat.add_mul, ← Nat.add_assoc] at this
            · cases hk
  | tail id off => exact (ht _ _ rfl).elim
  | _ => simp [elems] at h
theorem bound_sound {k : IntKind} {n : Int} {y d l : Nat} {code : BoundsCode} (h : boundOf (some (some (.int k n))) d = some l) (hl : l ≤ y) :
    (Instr.sliceBound (.int k n) y code).run P w = .ok l w := by
  simp only [boundOf] at h
  split at h
  · rename_i h0
    cases h
    have : n ≤ (y : Int) := by omega
    simp [Instr.sliceBound, asIntOf, h0, this]
  · cases h
def BoundR (Z : Zs) (w : World) (j : J) : Option (Option V) → Option Value → Prop
  | none, none => True
  | some (some v), some u => VR Z w j v u
  | some none, some _ => True
  | _, _ => False
theorem tail_as (s : SR P Z w j mem) {id off : Nat} {xs : List V} {u : Value} (h : elems mem (.tail id off) = some xs) (hv : VR Z w j (.tail id off) u) :
    ∃ len, elems mem (.win id off len) = some xs ∧ VR Z w j (.win id off len) u := by
  simp only [elems] at h
  cases hm : mem[id]? with
  | none => simp [hm] at h
  | some o =>
    cases o <;> simp [hm] at h
    subst h
    obtain ⟨h1, h2⟩ := tail_win s hm hv
    exact ⟨_, tail_elems hm h1, h2⟩
theorem elems_sound (s : SR P Z w j mem) {x : V} {xs : List V} {u : Value} (h : elems mem x = some xs) (hv : VR Z w j x u) :
    ∃ A c, u = .slice A xs.length c ∧ (xs = [] ∨ ∃ g b sz, A = some ⟨g, b, none⟩ ∧ 0 < sz ∧ ∀ (k : Nat) (y : V), xs[k]? = some y → y.cells.length = sz ∧ CellsAt Z w j0 g (b + k * sz) y.cells) := by
  by_cases ht : ∃ id off, x = .tail id off
  · obtain ⟨id, off, rfl⟩ := ht
    obtain ⟨len, h1, h2⟩ := tail_as s h hv
    exact elems_sound0 s h1 h2 (by intro _ _ e; cases e)
  · exact elems_sound0 s h hv (fun id off e => ht ⟨id, off, e⟩)
theorem bounds_sound {isSlice : Bool} {len cap l h m : Nat} {lo hi mx : Option (Option V)} {lo' hi' mx' : Option Value} (hlo : BoundR Z w j lo lo') (hhi : BoundR Z w j hi hi') (hmx : BoundR Z w j mx mx')
    (h1 : boundOf lo 0 = some l) (h2 : boundOf hi len = some h) (h3 : boundOf mx len = some m) (hlh : l ≤ h) (hhm : h ≤ m) (hml : m ≤ len) (hlc : len ≤ cap) (hh : mx.isSome = true → hi.isSome = true) :
    ∃ m', (Instr.sliceBounds isSlice len cap lo' hi' mx').run P w = .ok (l, h, m') w ∧ m' ≤ cap ∧ h ≤ m' ∧ (mx = none → m' = cap) := by
  have val : ∀ (o : Option (Option V)) (o' : Option Value) (d r : Nat), BoundR Z w j o o' → boundOf o d = some r → (o = none ∧ o' = none ∧ r = d) ∨ ∃ k n, o = some (some (.int k n)) ∧ o' = some (.int k n) := by
    intro o o' d r hr hb
    cases o with
    | none => cases o' with
      | none => simp [boundOf] at hb; exact .inl ⟨rfl, rfl, hb.symm⟩
      | some u => exact hr.elim
    | some v => cases o' with
      | none => cases v <;> exact hr.elim
      | some u => cases v with
        | none => simp [boundOf] at hb
        | some v =>
          cases v <;> simp [boundOf] at hb
          simp only [BoundR] at hr
          cases hr
          exact .inr ⟨_, _, rfl, rfl⟩
  have eb : ∀ (o : Option (Option V)) (k : IntKind) (n : Int) (d r : Nat), o = some (some (.int k n)) → boundOf o d = some r → ∀ (y : Nat) (code : BoundsCode), r ≤ y → (Instr.sliceBound (.int k n) y code).run P w = .ok r w := by
    intro o k n d r ho hb y code hy
    subst ho
    exact bound_sound hb hy
  unfold Instr.sliceBounds
  rcases val mx mx' len m hmx h3 with ⟨rfl, rfl, rfl⟩ | ⟨km, nm, rfl, rfl⟩
  · rcases val hi hi' m h hhi h2 with ⟨rfl, rfl, rfl⟩ | ⟨kh, nh, rfl, rfl⟩
    · rcases val lo lo' 0 l hlo h1 with ⟨rfl, rfl, rfl⟩ | ⟨kl, nl, rfl, rfl⟩
      · exact ⟨cap, by simp, by omega, by omega, fun _ => rfl⟩
      · have e := eb _ kl nl 0 l rfl h1
        exact ⟨cap, by simp [e h _ hlh], by omega, by omega, fun _ => rfl⟩
    · have e2 := eb _ kh nh m h rfl h2
      rcases val lo lo' 0 l hlo h1 with ⟨rfl, rfl, rfl⟩ | ⟨kl, nl, rfl, rfl⟩
      · exact ⟨cap, by cases isSlice <;> simp [e2 cap _ (by omega)], by omega, by omega, fun _ => rfl⟩
      · have e := eb _ kl nl 0 l rfl h1
        exact ⟨cap, by cases isSlice <;> simp [e h _ hlh, e2 cap _ (by omega)], by omega, by omega, fun _ => rfl⟩
  · have e3 := eb _ km nm len m rfl h3
    rcases val hi hi' len h hhi h2 with ⟨rfl, rfl, rfl⟩ | ⟨kh, nh, rfl, rfl⟩
    · simp at hh
    · have e2 := eb _ kh nh len h rfl h2
      rcases val lo lo' 0 l hlo h1 with ⟨rfl, rfl, rfl⟩ | ⟨kl, nl, rfl, rfl⟩
      · exact ⟨m, by simp [e2 m _ hhm, e3 cap _ (by omega)], by omega, by omega, fun h => by cases h⟩
      · have e := eb _ kl nl 0 l rfl h1
        exact ⟨m, by simp [e h _ hlh, e2 m _ hhm, e3 cap _ (by omega)], by omega, by omega, fun h => by cases h⟩
theorem extract_list (s : ByteArray) (l h : Nat) : (s.extract l h).data.toList = (s.data.toList.take h).drop l := by
  simp [ByteArray.data_extract, List.extract_eq_take_drop, List.drop_take]
theorem slice_le (s : SR P Z w j mem) {x : V} {xs : List V} {A : Option Addr} {n c : Nat} (h : elems mem x = some xs) (hv : VR Z w j x (.slice A n c)) : n ≤ c := by
  cases x with
  | nilS => cases hv; omega
  | sl l =>
    rcases hv.slInv with ⟨A, c, _, he⟩ | ⟨g, b, c, sz, he, hlc, _⟩
    · cases he; omega
    · cases he; exact hlc
  | lit t l =>
    cases hv with
    | lit hv =>
      rcases hv.slInv with ⟨A, c, hl0, he⟩ | ⟨g, b, c, sz, he, hlc, _⟩
      · subst hl0; simp
      · cases he; exact hlc
  | own id =>
    simp only [elems] at h
    cases hm : mem[id]? with
    | none => simp [hm] at h
    | some o =>
      cases o <;> simp [hm] at h
      obtain ⟨hn, hh, h1, h2, h3, h4, h5⟩ := s.obj id _ hm
      cases hv with
      | own hj =>
        rw [hj] at hh; cases hh
        rcases h5 with ⟨hu, _⟩ | ⟨g, b, c, us, hu, hlc, _⟩ <;> cases hu
        · omega
        · exact hlc
  | win id off len => cases hv with
    | win _ _ hlc _ _ => exact hlc
  | tail id off => cases hv with
    | tail _ _ h2 => cases h2 with
      | win _ _ hlc _ _ => exact hlc
  | _ => simp [elems] at h
theorem row_sz (s : SR P Z w j mem) {id : Nat} {xs : List V} {h : Han} {g b l n : Nat} (hx : elems mem (.own id) = some xs) (hj : j id = some h) (hl : l ≤ xs.length) (h0 : 0 < l)
    (hcl : ∀ (k : Nat) (y : V), xs[k]? = some y → y.cells.length = n ∧ CellsAt Z w j0 g (b + k * n) y.cells) : h.sz = n := by
  simp only [elems] at hx
  cases hm : mem[id]? with
  | none => simp [hm] at hx
  | some o =>
    cases o <;> simp [hm] at hx
    subst hx
    obtain ⟨hn, hh, h1, h2, h3, h4, h5⟩ := s.obj id _ hm
    rw [hj] at hh; cases hh
    rename_i t els fz
    have e : els[0]? = some (els[0]'(by omega)) := List.getElem?_eq_getElem (by omega)
    rw [← h4 _ (List.mem_of_getElem? e), (hcl 0 _ e).1]
theorem win_sz (s : SR P Z w j mem) {id off len : Nat} {xs : List V} {h : Han} {g b l n : Nat} (hx : elems mem (.win id off len) = some xs) (hj : j id = some h) (hl : l ≤ xs.length) (h0 : 0 < l)
    (hcl : ∀ (k : Nat) (y : V), xs[k]? = some y → y.cells.length = n ∧ CellsAt Z w j0 g (b + k * n) y.cells) : h.sz = n := by
  simp only [elems] at hx
  cases hm : mem[id]? with
  | none => simp [hm] at hx
  | some o =>
    cases o <;> simp [hm] at hx
    obtain ⟨hle, rfl⟩ := hx
    obtain ⟨hn, hh, h1, h2, h3, h4, h5⟩ := s.obj id _ hm
    rw [hj] at hh; cases hh
    rename_i t els fz
    have e : ((els.drop off).take len)[0]? = some (((els.drop off).take len)[0]'(by omega)) := List.getElem?_eq_getElem (by omega)
    have e2 := List.mem_of_getElem? e
    rw [← h4 _ (List.mem_of_mem_drop (List.mem_of_mem_take e2)), (hcl 0 _ e).1]
theorem slice_sound (s : SR P Z w j mem) {t : TypeId} {x v : V} {u : Value} {lo hi mx : Option (Option V)} {lo' hi' mx' : Option Value} (h : sliceA P mem t x lo hi mx = some v) (hv : VR Z w j x u)
    (hlo : BoundR Z w j lo lo') (hhi : BoundR Z w j hi hi') (hmx : BoundR Z w j mx mx') : ∃ r, (Instr.sliceAt t u lo' hi' mx').run P w = .ok r w ∧ VR Z w j v r := by
  unfold sliceA at h
  cases hu : P.underlying t with
  | none => simp [hu] at h
  | some d =>
    rw [hu] at h
    cases d <;> first | (simp at h; done) | skip
    case string =>
      cases x <;> simp only at h <;> first | (cases h; done) | skip
      cases hv
      rename_i sb
      split at h
      · cases h
      · rename_i hm0
        cases hl : boundOf lo 0 with
        | none => simp [hl] at h
        | some l =>
          cases hh : boundOf hi sb.data.toList.length with
          | none => simp only [hl, hh, Option.bind_some, Option.bind_none] at h; cases h
          | some hh' =>
            simp only [hl, hh, Option.bind_some] at h
            split at h
            · rename_i hc
              cases h
              cases mx with
              | some y => simp at hm0
              | none =>
                cases mx' with
                | some y => exact hmx.elim
                | none =>
                  obtain ⟨m', hr, hm1, hm2, _⟩ := bounds_sound (P := P) (isSlice := false) (len := sb.size) (cap := sb.size) (mx := none) (mx' := none) hlo hhi True.intro hl hh (by rfl : boundOf none sb.size = some sb.size) hc.1 hc.2 (Nat.le_refl _) (Nat.le_refl _) (by simp)
                  refine ⟨.string (sb.extract l hh'), ?_, ?_⟩
                  · simp [Instr.sliceAt, Instr.slice, run_underlying hu, hr]
                  · rw [← extract_list]; exact .str
            · cases h
    case slice e =>
      cases hx : elems mem x with
      | none => simp [hx] at h
      | some xs =>
        simp only [hx, Option.bind_some] at h
        cases hl : boundOf lo 0 with
        | none => simp [hl] at h
        | some l =>
          cases hh : boundOf hi xs.length with
          | none => simp [hl, hh] at h
          | some hh' =>
            cases hm : boundOf mx xs.length with
            | none => simp [hl, hh, hm] at h
            | some m =>
              simp only [hl, hh, hm, Option.bind_some] at h
              split at h
              · rename_i hc
                obtain ⟨hpos, hlh, hhm, hml, hmh, hall⟩ := hc
                have hinfo : ∃ i, P.info? e = some i ∧ i.size = P.cellsOf e := by
                  cases hi : P.info? e with
                  | none => simp [Program.cellsOf, hi] at hpos
                  | some i => exact ⟨i, rfl, by simp [Program.cellsOf, hi]⟩
                obtain ⟨i, hinf, hisz⟩ := hinfo
                obtain ⟨A, c, rfl, hel⟩ := elems_sound s hx hv
                have hle : xs.length ≤ c := slice_le s hx hv
                obtain ⟨m', hr, hm1, hm2, hm3⟩ := bounds_sound (P := P) (isSlice := true) hlo hhi hmx hl hh hm hlh hhm hml hle hmh
                have hrun : (Instr.sliceAt t (.slice A xs.length c) lo' hi' mx').run P w = .ok (.slice (if m' = l then A else A.map (·.add (l * P.cellsOf e))) (hh' - l) (m' - l)) w := by
                  simp [Instr.sliceAt, Instr.slice, run_underlying hu, hr, sizeOf, typeInfo, hinf, hisz]
                have hA : 0 < hh' - l → ∃ g b, A = some ⟨g, b, none⟩ ∧ (if m' = l then A else A.map (·.add (l * P.cellsOf e))) = some ⟨g, b + l * P.cellsOf e, none⟩ ∧ ∀ (k : Nat) (y : V), xs[k]? = some y → y.cells.length = P.cellsOf e ∧ CellsAt Z w j0 g (b + k * P.cellsOf e) y.cells := by
                  intro h0
                  rcases hel with rfl | ⟨g, b, sz, rfl, hsz, hcl⟩
                  · simp at hml; omega
                  · have h1 : xs[l]? = some (xs[l]'(by omega)) := List.getElem?_eq_getElem (by omega)
                    have h2 : sz = P.cellsOf e := by
                      have h3 := (hcl l _ h1).1
                      have h4 := List.all_eq_true.1 hall _ (List.mem_of_getElem? h1)
                      simp at h4
                      omega
                    subst h2
                    refine ⟨g, b, rfl, ?_, hcl⟩
                    rw [if_neg (by omega)]
                    simp [add_none]
                refine ⟨_, hrun, ?_⟩
                cases x <;> simp only at h <;> first | (cases h; done) | skip
                case nilS =>
                  cases h
                  simp [elems] at hx
                  subst hx
                  cases hv
                  simp at hml hm1
                  have e1 : hh' = 0 := by omega
                  have e2 : l = 0 := by omega
                  have e3 : m' = 0 := by omega
                  subst e1 e2 e3
                  simpa using VR.nilS
                case sl l0 =>
                  simp [elems] at hx
                  subst hx
                  cases h
                  by_cases h0 : 0 < hh' - l
                  · obtain ⟨g, b, hA1, hA2, hcl⟩ := hA h0
                    rw [hA2]
                    rcases hv.slInv with ⟨_, _, rfl, _⟩ | ⟨g', b', c', sz, he, _, hsz, hz⟩
                    · simp at hml; omega
                    · rw [hA1] at he
                      simp at he
                      obtain ⟨⟨rfl, rfl⟩, rfl⟩ := he
                      have e4 : hh' - l = ((l0.take hh').drop l).length := by simp; omega
                      rw [e4]
                      have h1 : l0[l]? = some (l0[l]'(by omega)) := List.getElem?_eq_getElem (by omega)
                      have h2 : sz = P.cellsOf e := by rw [← (hz l _ h1).1, (hcl l _ h1).1]
                      subst h2
                      refine VR.slMk (by simp; omega) hsz fun k y hk => ?_
                      rw [List.getElem?_drop, List.getElem?_take] at hk
                      split at hk
                      · obtain ⟨a1, a2, a3⟩ := hz _ y hk
                        refine ⟨a1, fun i hi => ?_, ?_⟩
                        · have := a2 i hi
                          rwa [Nat.add_mul, Nat.add_assoc, ← Nat.add_assoc b] at this
                        · rwa [Nat.add_mul, ← Nat.add_assoc] at a3
                      · cases hk
                  · have e4 : (l0.take hh').drop l = [] := by apply List.drop_eq_nil_of_le; simp; omega
                    rw [e4, show hh' - l = 0 by omega]
                    exact .sl0
                case own id =>
                  split at h
                  · rename_i e' els fz hmem
                    cases mx <;> simp at h
                    obtain ⟨rfl, h⟩ := h
                    have hm' := hm3 rfl
                    obtain ⟨hn, hh2, h1, h2, h3, h4, h5⟩ := s.obj id _ hmem
                    cases hv with
                    | own hj =>
                      rw [hj] at hh2; cases hh2
                      simp only at h1
                      have hw : VR Z w j (.win id l (hh' - l)) (.slice (if m' = l then A else A.map (·.add (l * P.cellsOf e'))) (hh' - l) (m' - l)) := by
                        refine .win hj (by omega) (by omega) (by omega) ?_
                        rcases h5 with ⟨h5, _⟩ | ⟨g, b, c', us, h5, _⟩
                        · simp only [Value.slice.injEq] at h5
                          obtain ⟨rfl, _⟩ := h5
                          exact .inl ⟨rfl, by split <;> rfl⟩
                        · simp only [Value.slice.injEq] at h5
                          obtain ⟨rfl, _⟩ := h5
                          refine .inr ⟨g, b, if m' = l then 0 else l * P.cellsOf e', rfl, ?_, ?_, ?_⟩
                          · split <;> simp [add_none]
                          · rw [h1]; split <;> omega
                          · intro h0; rw [h1, if_neg (by omega)]
                      cases hi0 : hi with
                      | some y => rw [hi0] at h; simp at h; subst h; exact hw
                      | none =>
                        rw [hi0] at h hh
                        simp at h
                        subst h
                        simp only [boundOf, Option.some.injEq] at hh
                        subst hh
                        exact .tail hj (by omega) hw
                  · cases h
                case win id off len =>
                  split at h
                  · rename_i e' els fz hmem
                    cases mx <;> simp at h
                    obtain ⟨rfl, rfl⟩ := h
                    have hm' := hm3 rfl
                    obtain ⟨hn', hh2, h1, h2, h3, h4, h5⟩ := s.obj id _ hmem
                    cases hv with
                    | win hj hn hlc hcc ha =>
                      rw [hj] at hh2; cases hh2
                      simp only at h1
                      refine .win hj (by omega) (by omega) (by omega) ?_
                      rcases ha with ⟨hA1, rfl⟩ | ⟨g, b, o, hA1, rfl, ho1, ho2⟩
                      · exact .inl ⟨hA1, by split <;> rfl⟩
                      · refine .inr ⟨g, b, o + if m' = l then 0 else l * P.cellsOf e', hA1, ?_, ?_, ?_⟩
                        · split <;> simp [add_none, Nat.add_assoc]
                        · rw [h1, Nat.add_mul]; rw [h1] at ho1; split <;> omega
                        · intro h0; rw [h1, if_neg (by omega), Nat.add_mul]; rw [h1] at ho2; rw [ho2 (by omega)]
                  · cases h
                case tail id off =>
                  split at h
                  · rename_i e' els fz hmem
                    cases mx <;> simp at h
                    obtain ⟨rfl, h⟩ := h
                    have hm' := hm3 rfl
                    obtain ⟨hn', hh2, h1, h2, h3, h4, h5⟩ := s.obj id _ hmem
                    have hxs : xs = els.drop off := by simp only [elems, hmem, Option.some.injEq] at hx; exact hx.symm
                    obtain ⟨ho0, hwv⟩ := tail_win s hmem hv
                    obtain ⟨At, nt, ct, szt, hjt, hnt⟩ : ∃ A0 n0 c0 sz0, j id = some ⟨.slice A0 n0 c0, sz0⟩ ∧ off ≤ n0 := by
                      cases hv with
                      | tail hj hn _ => exact ⟨_, _, _, _, hj, hn⟩
                    rw [hjt] at hh2
                    cases hh2
                    have hnt2 : nt = els.length := by
                      rcases h5 with ⟨hu, he⟩ | ⟨g, b, c', us, hu, _⟩
                      · simp only [Value.slice.injEq] at hu; subst he; exact hu.2.1
                      · simp only [Value.slice.injEq] at hu; exact hu.2.1
                    have hxl : xs.length = els.length - off := by rw [hxs]; simp
                    have hw : VR Z w j (.win id (off + l) (hh' - l)) (.slice (if m' = l then A else A.map (·.add (l * P.cellsOf e'))) (hh' - l) (m' - l)) := by
                      rw [← hxl] at hwv
                      cases hwv with
                      | win hj hn hlc hcc ha =>
                        rw [hjt] at hj
                        cases hj
                        simp only at h1
                        refine .win hjt (by omega) (by omega) (by omega) ?_
                        rcases ha with ⟨hA1, rfl⟩ | ⟨g, b, o, hA1, rfl, ho1, ho2⟩
                        · exact .inl ⟨hA1, by split <;> rfl⟩
                        · refine .inr ⟨g, b, o + if m' = l then 0 else l * P.cellsOf e', hA1, ?_, ?_, ?_⟩
                          · split <;> simp [add_none, Nat.add_assoc]
                          · rw [h1, Nat.add_mul]; rw [h1] at ho1; split <;> omega
                          · intro h0; rw [h1, if_neg (by omega), Nat.add_mul]; rw [h1] at ho2; rw [ho2 (by omega)]
                    cases hi0 : hi with
                    | some y => rw [hi0] at h; simp at h; subst h; exact hw
                    | none =>
                      rw [hi0] at h hh
                      simp at h
                      subst h
                      simp only [boundOf, Option.some.injEq] at hh
                      refine .tail hjt (by omega) ?_
                      have e : nt - (off + l) = hh' - l := by omega
                      rw [e]
                      exact hw
                  · cases h
              · cases h
theorem fieldAddr_sound {st : TypeId} {x v : V} {u : Value} {f : Nat} (h : fieldAddrA P st x f = some v) (hv : VR Z w j x u) : ∃ r, (Instr.fieldAt st u f).run P w = .ok r w ∧ VR Z w j v r := by
  unfold fieldAddrA fieldOf at h
  cases hu : P.underlying st with
  | none => simp [hu] at h
  | some d =>
    cases d <;> simp only [hu] at h <;> first | (simp at h; done) | skip
    rename_i fs
    cases hf : fs[f]? with
    | none => simp [hf] at h
    | some fl =>
    simp only [hf, Option.map_some, Option.bind_some] at h
    split at h
    · cases h
    rename_i h0
    have hinfo : ∃ i, P.info? fl.type = some i ∧ i.size ≠ 0 := by
      cases hi : P.info? fl.type with
      | none => simp [Program.cellsOf, hi] at h0
      | some i => exact ⟨i, rfl, by simpa [Program.cellsOf, hi] using h0⟩
    obtain ⟨i, hi, hi0⟩ := hinfo
    have run : ∀ g b, (Instr.fieldAt st (.pointer (some ⟨g, b, none⟩)) f).run P w = .ok (.pointer (some ⟨g, b + fl.offset, none⟩)) w := by
      intro g b
      simp [Instr.fieldAt, run_underlying hu, hf, Instr.sureAddr, fieldPlace, sizeOf, typeInfo, hi, hi0, add_none]
    cases x <;> simp at h <;> subst h
    · cases hv with
      | ref f' hc hvv =>
        refine ⟨_, run _ _, ?_⟩
        rw [Nat.add_assoc]
        exact .ref f' hc hvv
    · cases hv with
      | ptr hj hs =>
        refine ⟨_, run _ _, ?_⟩
        rw [Nat.add_assoc, Nat.add_assoc]
        exact .ptr hj hs
    · cases hv with
      | hp hg => exact ⟨_, run _ _, .hp hg⟩
theorem row_start {h : Han} {t : TypeId} {els : List V} {fz : Nat} (r : RowAt P Z w h t els fz) {A : Option Addr} {n c : Nat} (hu : h.u = .slice A n c) (h0 : 0 < els.length) :
    n = els.length ∧ n ≤ c ∧ ∃ g b, A = some ⟨g, b, none⟩ ∧ h.start = some (g, b) := by
  rcases r.2.2.2.2 with ⟨_, he⟩ | ⟨g, b, c', us, hu', hlc, _⟩
  · subst he; simp at h0
  · rw [hu] at hu'
    cases hu'
    refine ⟨rfl, hlc, g, b, rfl, ?_⟩
    cases h; simp at hu; subst hu; rfl
theorem indexAddr_sound (s : SR P Z w j mem) {t : TypeId} {x i v : V} {u ui : Value} (h : indexAddrA P mem t x i = some v) (hv : VR Z w j x u) (hi : VR Z w j i ui) :
    ∃ r, (Instr.indexAt t u ui).run P w = .ok r w ∧ VR Z w j v r := by
  unfold indexAddrA at h
  cases hu : P.underlying t with
  | none => simp [hu] at h
  | some d =>
    cases i <;> (try (simp [hu] at h; done)) <;> (try (cases d <;> simp [hu] at h; done))
    rename_i k n
    cases hi
    cases d <;> simp only [hu] at h <;> first | (cases h; done) | skip
    case slice e =>
      split at h
      · rename_i hn0
        have run : ∀ g b len c, n.toNat < len → 0 < P.cellsOf e → (Instr.indexAt t (.slice (some ⟨g, b, none⟩) len c) (.int k n)).run P w = .ok (.pointer (some ⟨g, b + n.toNat * P.cellsOf e, none⟩)) w := by
          intro g b len c hlt hpos
          have hinfo : ∃ i, P.info? e = some i ∧ i.size = P.cellsOf e := by
            cases hi : P.info? e with
            | none => simp [Program.cellsOf, hi] at hpos
            | some i => exact ⟨i, rfl, by simp [Program.cellsOf, hi]⟩
          obtain ⟨i, hi, hisz⟩ := hinfo
          have h1 : n < (len : Int) := by omega
          simp [Instr.indexAt, asIntOf, run_underlying hu, hn0, h1, sizeOf, typeInfo, hi, hisz, add_none]
        cases x <;> simp only at h <;> first | (cases h; done) | skip
        case sl l =>
          cases hl : l[n.toNat]? with
          | none => simp [hl] at h
          | some y =>
            simp [hl] at h
            obtain ⟨hy, rfl⟩ := h
            have hlt : n.toNat < l.length := (List.getElem?_eq_some_iff.1 hl).1
            rcases hv.slInv with ⟨_, _, rfl, _⟩ | ⟨g, b, c, sz, rfl, hlc, hsz, hh⟩
            · simp at hl
            · obtain ⟨h1, h2, h3⟩ := hh _ y hl
              have e1 : sz = P.cellsOf e := by omega
              subst e1
              refine ⟨_, run g b _ c hlt hsz, ?_⟩
              have := VR.refMk (Z := Z) (w := w) (j := j) (x := y) (off := 0) (g := g) (b := b + n.toNat * P.cellsOf e) (fun i hi => by rw [Nat.add_assoc]; exact h2 i (by omega)) h3
              simpa using this
        case own id =>
          cases hm : mem[id]? with
          | none => simp [hm] at h
          | some o =>
            cases o <;> simp [hm] at h
            rename_i t' els fz
            obtain ⟨⟨rfl, hlt⟩, rfl⟩ := h
            obtain ⟨hn, hh, hr⟩ := s.obj id _ hm
            cases hv with
            | own hj =>
              rw [hj] at hh; cases hh
              obtain ⟨e1, e2, g, b, rfl, hst⟩ := row_start hr rfl (by omega)
              subst e1
              have h1 := hr.1
              simp only at h1
              refine ⟨_, run g b _ _ hlt (by have := hr.2.1; simp only at this; omega), ?_⟩
              have := VR.ptr (Z := Z) (w := w) (k := n.toNat) (off := 0) hj hst
              simpa [h1] using this
        case win id off len =>
          cases hm : mem[id]? with
          | none => simp [hm] at h
          | some o =>
            cases o <;> simp [hm] at h
            rename_i t' els fz
            obtain ⟨⟨rfl, hlt, hle⟩, rfl⟩ := h
            obtain ⟨hn, hh, hr⟩ := s.obj id _ hm
            cases hv with
            | win hj hnn hlc _ ha =>
              rw [hj] at hh; cases hh
              obtain ⟨e1, e2, g, b, rfl, hst⟩ := row_start hr rfl (by omega)
              obtain ⟨g', b', o, hA, hA', _, ho⟩ := ha.resolve_left (fun h => by cases h.1)
              have ho := ho (by omega)
              subst ho
              cases hA
              subst hA'
              have h1 := hr.1
              simp only at h1
              refine ⟨_, run g _ _ _ hlt (by have := hr.2.1; simp only at this; omega), ?_⟩
              have := VR.ptr (Z := Z) (w := w) (k := off + n.toNat) (off := 0) hj hst
              simp only [h1, Nat.add_zero, Nat.add_mul, ← Nat.add_assoc] at this
              rw [h1]
              exact this
        case tail id off =>
          cases hm : mem[id]? with
          | none => simp [hm] at h
          | some o =>
            cases o <;> simp only [hm] at h <;> first | (cases h; done) | skip
            rename_i t' els fz
            split at h
            · rename_i hc
              obtain ⟨rfl, hlt⟩ := hc
              cases h
              obtain ⟨ho0, hwv⟩ := tail_win s hm hv
              rw [List.length_drop] at hlt
              obtain ⟨hn, hh, hr⟩ := s.obj id _ hm
              cases hwv with
              | win hj hnn hlc _ ha =>
                rw [hj] at hh; cases hh
                obtain ⟨e1, e2, g, b, rfl, hst⟩ := row_start hr rfl (by omega)
                obtain ⟨g', b', o, hA, hA', _, ho⟩ := ha.resolve_left (fun h => by cases h.1)
                have ho := ho (by omega)
                subst ho
                cases hA
                subst hA'
                have h1 := hr.1
                simp only at h1
                refine ⟨_, run g _ _ _ hlt (by have := hr.2.1; simp only at this; omega), ?_⟩
                have := VR.ptr (Z := Z) (w := w) (k := off + n.toNat) (off := 0) hj hst
                simp only [h1, Nat.add_zero, Nat.add_mul, ← Nat.add_assoc] at this
                rw [h1]
                exact this
            · cases h
      · cases h
    case array len e =>
      split at h
      · rename_i hc
        have run : ∀ g b, 0 < P.cellsOf e → (Instr.indexAt t (.pointer (some ⟨g, b, none⟩)) (.int k n)).run P w = .ok (.pointer (some ⟨g, b + n.toNat * P.cellsOf e, none⟩)) w := by
          intro g b hpos
          have hinfo : ∃ i, P.info? e = some i ∧ i.size = P.cellsOf e := by
            cases hi : P.info? e with
            | none => simp [Program.cellsOf, hi] at hpos
            | some i => exact ⟨i, rfl, by simp [Program.cellsOf, hi]⟩
          obtain ⟨i, hi, hisz⟩ := hinfo
          have h1 : n < (len : Int) := by omega
          simp [Instr.indexAt, asIntOf, run_underlying hu, Instr.sureAddr, hc.1, h1, sizeOf, typeInfo, hi, hisz, add_none]
        cases x <;> simp only at h <;> first | (cases h; done) | skip
        · cases h
          cases hv with
          | ref f' hcc hvv =>
            refine ⟨_, run _ _ hc.2.2, ?_⟩
            rw [Nat.add_assoc]
            exact .ref f' hcc hvv
        · cases h
          cases hv with
          | ptr hj hs =>
            refine ⟨_, run _ _ hc.2.2, ?_⟩
            rw [Nat.add_assoc, Nat.add_assoc]
            exact .ptr hj hs
      · cases h
end
end Go.Lite