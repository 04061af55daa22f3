/-
  The evaluator: what is laid at the start; a call without arguments that answers true.
-/
import Derived.Test.YtbjllaknnpbkkaaGreatDoorSz25
import Derived.Lib.LaidTab
namespace Go.Proofs.YtbjllaknnpbkkaaGreatDoor
namespace Ev
open Go.RowKit

noncomputable def flatA (g : DataW Unit → Option (List AV)) : List (DataW Unit) → Option (List AV)
  | [] => some []
  | d :: ds => oc (g d) fun a => oc (flatA g ds) fun b => some (a ++ b)
noncomputable def flatF (P : Program) (g : TypeId → DataW Unit → Option (List AV)) (n : Nat) : Nat → List Field → List (DataW Unit) → Option (List AV)
  | off, [], [] => bc (Nat.beq off n) (some [])
  | off, f :: fs, d :: ds => bc (Nat.beq f.offset off) (oc (g f.type d) fun a => oc (flatF P g n (off + P.cellsOf f.type) fs ds) fun b => some (a ++ b))
  | _, _, _ => none
/-- The cells of a datum that holds no address. -/
noncomputable def flat (P : Program) : Nat → TypeId → DataW Unit → Option (List AV)
  | 0, _, _ => none
  | f + 1, t, d => match P.underlying t, d with
    | some .bool, .lit (.bool b) => some [.bool b]
    | some (.int _), .lit (.int k n) => some [.int k n]
    | some .string, .lit (.string l) => some [.str l]
    | some (.struct fs), .agg ds => flatF P (flat P f) (P.cellsOf t) 0 fs.toList ds
    | some (.array n e), .agg ds => bc (Nat.beq ds.length n) (bc (Nat.beq (n * P.cellsOf e) (P.cellsOf t)) (flatA (flat P f e) ds))
    | _, _ => none

section
variable {P : Program} {E : Env} {cs : List Value}
theorem flatF_ok {g : TypeId → DataW Unit → Option (List AV)} {n : Nat} {tr : TypeId → List Value → Option (DataW Unit × List MemPlace)} (hlen : cs.length = n)
    (hg : ∀ t d a c p, g t d = some a → tr t c = some (d, p) → RelL E a c) : ∀ (fs : List Field) (off : Nat) {ds : List (DataW Unit)} {b : List AV} {xs : List (DataW Unit × List MemPlace)},
      flatF P g n off fs ds = some b → fs.mapM (fun f => tr f.type ((cs.drop f.offset).take (P.cellsOf f.type))) = some xs → xs.map (·.1) = ds → RelL E b (cs.drop off) := by
  intro fs
  induction fs with
  | nil =>
    intro off ds b xs h hm hx
    cases hm
    cases hx
    obtain ⟨h1, h2⟩ := bc_some h
    cases h2
    have : off = n := by simpa using h1
    rw [List.drop_eq_nil_of_le (by omega)]
    exact .nil
  | cons f fs ih =>
    intro off ds b xs h hm hx
    rw [List.mapM_cons] at hm
    obtain ⟨y, hy, hm⟩ := Option.bind_eq_some_iff.1 hm
    obtain ⟨ys, hys, hm⟩ := Option.bind_eq_some_iff.1 hm
    cases hm
    cases hx
    obtain ⟨h1, h⟩ := bc_some h
    obtain ⟨a, ha, h⟩ := oc_some h
    obtain ⟨b', hb, h⟩ := oc_some h
    cases h
    have hoff : f.offset = off := by simpa using h1
    rw [hoff] at hy
    have r1 := hg _ _ _ _ y.2 ha hy
    have r2 := ih _ hb hys rfl
    have := r1.append r2
    rw [← List.drop_drop, List.take_append_drop] at this
    exact this
theorem flatA_ok {g : DataW Unit → Option (List AV)} {c : Nat} {tr : List Value → Option (DataW Unit × List MemPlace)}
    (hg : ∀ d a c p, g d = some a → tr c = some (d, p) → RelL E a c) : ∀ (ds : List (DataW Unit)) (i : Nat) {b : List AV} {xs : List (DataW Unit × List MemPlace)},
      cs.length = (i + ds.length) * c → flatA g ds = some b → (List.range' i ds.length).mapM (fun i => tr ((cs.drop (i * c)).take c)) = some xs → xs.map (·.1) = ds → RelL E b (cs.drop (i * c)) := by
  intro ds
  induction ds with
  | nil =>
    intro i b xs hl h hm hx
    cases h
    rw [List.drop_eq_nil_of_le (by simp at hl; omega)]
    exact .nil
  | cons d ds ih =>
    intro i b xs hl h hm hx
    have hr : List.range' i (d :: ds).length = i :: List.range' (i + 1) ds.length := rfl
    rw [hr, List.mapM_cons] at hm
    obtain ⟨y, hy, hm⟩ := Option.bind_eq_some_iff.1 hm
    obtain ⟨ys, hys, hm⟩ := Option.bind_eq_some_iff.1 hm
    cases hm
    rw [List.map_cons, List.cons.injEq] at hx
    obtain ⟨rfl, hx⟩ := hx
    obtain ⟨a, ha, h⟩ := oc_some h
    obtain ⟨b', hb, h⟩ := oc_some h
    cases h
    have r1 := hg _ _ _ y.2 ha hy
    have r2 := ih (i + 1) (by rw [hl, List.length_cons]; congr 1; omega) hb hys hx
    have := r1.append r2
    rw [show (i + 1) * c = i * c + c from by rw [Nat.add_mul, Nat.one_mul], ← List.drop_drop, List.take_append_drop] at this
    exact this
theorem mapM_len {α β : Type} {f : α → Option β} : ∀ {l : List α} {r : List β}, l.mapM f = some r → r.length = l.length := by
  intro l
  induction l with
  | nil => intro r h; cases h; rfl
  | cons x l ih =>
    intro r hr
    rw [List.mapM_cons] at hr
    obtain ⟨y, -, hr⟩ := Option.bind_eq_some_iff.1 hr
    obtain ⟨ys, hys, hr⟩ := Option.bind_eq_some_iff.1 hr
    cases hr
    simp [ih hys]
theorem trod_flat {enc : TypeId × Value → Unit} {w : World} {base : Nat} {sp : Nat → Bool} {held : Bool} : ∀ (f : Nat) {fuel : Nat} {t : TypeId} {d : DataW Unit} {l : List AV} {cs : List Value} {p : List MemPlace},
    flat P f t d = some l → DataW.trod enc P w base sp held fuel t cs = some (d, p) → RelL E l cs := by
  intro f
  induction f with
  | zero => intro fuel t d l cs p hf; cases hf
  | succ f ih =>
    intro fuel t d l cs p hf h
    simp only [flat] at hf
    split at hf
    · rename_i b hu
      cases hf
      obtain ⟨b', rfl, hx⟩ := DataW.trod_bool hu h
      cases hx
      exact .cons (.bool _) .nil
    · rename_i k' k n hu
      cases hf
      obtain ⟨b', rfl, hx, _⟩ := DataW.trod_int hu h
      cases hx
      exact .cons (.int _ _) .nil
    · rename_i s hu
      cases hf
      obtain ⟨b', rfl, hx, _⟩ := DataW.trod_string hu h
      cases hx
      exact .cons (.str _) .nil
    · rename_i fs ds hu
      cases fuel with
      | zero => simp [DataW.trod] at h
      | succ fuel =>
        simp only [DataW.trod, hu] at h
        split at h
        · rename_i hl
          obtain ⟨xs, hm, hx⟩ := Option.map_eq_some_iff.1 h
          have hds : xs.map (·.1) = ds := by
            have := congrArg Prod.fst hx
            simpa using this
          have := flatF_ok (P := P) (E := E) (cs := cs) (tr := fun t c => DataW.trod enc P w base sp held fuel t c) hl (fun t d a c p h1 h2 => ih h1 h2) fs.toList 0 hf hm hds
          simpa using this
        · cases h
    · rename_i n e ds hu
      obtain ⟨hn, hf⟩ := bc_some hf
      obtain ⟨hc, hf⟩ := bc_some hf
      cases fuel with
      | zero => simp [DataW.trod] at h
      | succ fuel =>
        simp only [DataW.trod, hu] at h
        split at h
        · rename_i hl
          obtain ⟨xs, hm, hx⟩ := Option.map_eq_some_iff.1 h
          have hds : xs.map (·.1) = ds := by
            have := congrArg Prod.fst hx
            simpa using this
          have hn' : ds.length = n := by simpa using hn
          have hc' : n * P.cellsOf e = P.cellsOf t := by simpa using hc
          rw [List.range_eq_range', ← hn'] at hm
          have := flatA_ok (E := E) (cs := cs) (c := P.cellsOf e) (tr := fun c => DataW.trod enc P w base sp held fuel e c) (fun d a c p h1 h2 => ih h1 h2) ds 0 (by rw [hl, ← hc', ← hn']; simp) hf hm hds
          simpa using this
        · cases h
    · cases hf
end

/-- The variables that are laid, as cells. -/
noncomputable def tabsOf (P : Program) : List (String × DataW Unit) → List (Nat × List AV)
  | [] => []
  | (n, d) :: r => match P.globalNamed n with
    | some g => match (P.globals[g]?).map (·.type) with
      | some t => match flat P 6 t d with
        | some l => bi (Nat.blt g 64) ((g, l) :: tabsOf P r) (tabsOf P r)
        | none => tabsOf P r
      | none => tabsOf P r
    | none => tabsOf P r
noncomputable def initH : List (Nat × List AV) → T AObj
  | [] => .e
  | p :: r => (initH r).put p.1 (some (.tab p.2))
noncomputable def start0 (P : Program) (laid : List (String × DataW Unit)) (O : Orc) : St := ⟨64, initH (tabsOf P laid), 0, 0, O⟩
noncomputable def okT (r : R) : Bool := Option.rec (motive := fun _ => Bool) false (fun p => Prod.rec (motive := fun _ => Bool) (fun v _ => match v with
  | .bool b => b
  | _ => false) p) r
theorem okT_some {r : R} (h : okT r = true) : ∃ s, r = some (.bool true, s) := by
  cases r with
  | none => cases h
  | some p =>
    obtain ⟨v, s⟩ := p
    cases v <;> first | (cases h; done) | skip
    rename_i b
    have : b = true := h
    subst this
    exact ⟨s, rfl⟩

section
variable {P : Program} {w : World}
theorem tabsOf_ok (E : Env) : ∀ {laid : List (String × DataW Unit)} {ps : List MemPlace}, DataW.LaidVars P w laid ps → ∀ g l, (g, l) ∈ tabsOf P laid → g < 64 ∧ ∃ c e f, w.heap[g]? = some (.cells c e f) ∧ RelL E l c.toList := by
  intro laid
  induction laid with
  | nil => intro ps _ g l h; cases h
  | cons x r ih =>
    obtain ⟨n, d⟩ := x
    intro ps h g l hm
    obtain ⟨g0, t0, cs, fuel, p, q, hg, ht, hv, hd, hrest, _⟩ := h
    simp only [tabsOf, hg, ht] at hm
    split at hm
    · rename_i l0 hl
      have hcase : (g < 64 ∧ (g, l) = (g0, l0)) ∨ (g, l) ∈ tabsOf P r := by
        cases hb : Nat.blt g0 64 with
        | false => rw [hb, bi_false] at hm; exact .inr hm
        | true =>
          rw [hb, bi_true] at hm
          rcases List.mem_cons.1 hm with h1 | h1
          · cases h1; exact .inl ⟨by simpa using hb, rfl⟩
          · exact .inr h1
      rcases hcase with ⟨hlt, h1⟩ | h1
      · cases h1
        refine ⟨hlt, ?_⟩
        unfold World.var? at hv
        rw [hg, Option.bind_some] at hv
        split at hv
        · rename_i c e f hh
          cases hv
          exact ⟨_, e, f, hh, trod_flat 6 hl hd⟩
        · cases hv
      · exact ih hrest g l h1
    · exact ih hrest g l hm
theorem initH_get {i : Nat} {o : AObj} : ∀ {l : List (Nat × List AV)}, (initH l).get i = some o → ∃ vs, (i, vs) ∈ l ∧ o = .tab vs := by
  intro l
  induction l with
  | nil => intro h; rw [show initH [] = T.e from rfl, T.get_e] at h; cases h
  | cons p r ih =>
    intro h
    rcases T.put_some h with ⟨rfl, h1⟩ | ⟨_, h1⟩
    · cases h1; exact ⟨p.2, by simp, rfl⟩
    · obtain ⟨vs, h2, h3⟩ := ih h1
      exact ⟨vs, by simp [h2], h3⟩
def env0 (ρ : Nat → Int) (l : List (Nat × List AV)) : Env := ⟨fun i => if i < 64 then (if l.any (fun p => p.1 == i) then .live i 0 else .dead) else .unborn, ρ, fun _ => Stamps.same⟩
theorem env0_live {ρ : Nat → Int} {l : List (Nat × List AV)} {i b C : Nat} (h : env0 ρ l i = .live b C) : b = i ∧ i < 64 ∧ ∃ vs, (i, vs) ∈ l := by
  simp only [env0] at h
  split at h
  · rename_i hi
    split at h
    · rename_i ha
      cases h
      obtain ⟨p, hp, he⟩ := List.any_eq_true.1 ha
      have : p.1 = i := by simpa using he
      subst this
      exact ⟨rfl, hi, p.2, hp⟩
    · cases h
  · cases h
theorem sat0 {laid : List (String × DataW Unit)} (h : laidMet P laid w) {O : Orc} {ρ : Nat → Int} (ho : OrcOk O ρ) : Sat (fun _ => True) w.heap.size (env0 ρ (tabsOf P laid)) (start0 P laid O) w := by
  obtain ⟨ps, hl, _⟩ := h
  have ok := tabsOf_ok (env0 ρ (tabsOf P laid)) hl
  refine ⟨?_, ?_, Nat.le_refl _, ?_, ?_, ?_, ho⟩
  · intro i j b C D _ hi hj
    have h1 := (env0_live hi).1
    have h2 := (env0_live hj).1
    omega
  · intro i b C hi
    obtain ⟨rfl, _, vs, hm⟩ := env0_live hi
    obtain ⟨_, c, e, f, hh, _⟩ := ok _ _ hm
    exact (Array.getElem?_eq_some_iff.1 hh).1
  · intro g hg
    simp only [env0]
    rw [if_pos hg]
    split
    · rfl
    · trivial
  · intro i hi _
    have hi' : 64 ≤ i := hi
    simp only [env0]
    rw [if_neg (by omega)]
  · intro i o _ hg
    obtain ⟨vs, hm, rfl⟩ := initH_get hg
    obtain ⟨hlt, c, e, f, hh, hr⟩ := ok _ _ hm
    refine ⟨i, 0, _, ?_, hh, ⟨c, e, f, rfl, hr⟩, .inl rfl⟩
    simp only [env0]
    rw [if_pos hlt, if_pos]
    exact List.any_eq_true.2 ⟨(i, vs), hm, by simp⟩
/-- A call without arguments, that the evaluator shows to answer true. -/
theorem closed_true {laid : List (String × DataW Unit)} (hmix : P.follows .mixedOrders = true) (hnames : (P.funcs.toList.all fun fn => fn.name != "runtime.NumGoroutine") = true) {n : Nat} {f : FuncId}
    (hrun : okT ((ev P (fun _ => none) n).call f [] (start0 P laid noOrc)) = true) (h : laidMet P laid w) : Calls P f #[] w fun e w' => e = .returned (.bool true) ∧ Below w.heap.size w w' := by
  obtain ⟨s', hs'⟩ := okT_some hrun
  have hn : ∀ (f : FuncId) (fn : Func), P.funcs[f]? = some fn → fn.name ≠ "runtime.NumGoroutine" := by
    intro f fn hf
    have := List.all_eq_true.1 hnames fn (by
      rw [← Array.getElem?_toList] at hf
      exact List.mem_of_getElem? hf)
    simpa using this
  refine (ev_call hmix (fun f g hg => by cases hg) hn hs' (sat0 h (noOrc_ok fun _ => 0)) (args' := #[]) .nil).mono ?_
  rintro e w' ⟨E', v', rfl, hv, _, hx⟩
  cases hv
  exact ⟨rfl, hx.below⟩
end
end Ev
end Go.Proofs.YtbjllaknnpbkkaaGreatDoor
