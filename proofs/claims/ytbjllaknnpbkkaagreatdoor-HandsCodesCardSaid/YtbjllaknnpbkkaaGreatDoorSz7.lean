/-
  The evaluator: slices of slices; loads and stores; new blocks.
-/
import Derived.Test.YtbjllaknnpbkkaaGreatDoorSz6
namespace Go.Proofs.YtbjllaknnpbkkaaGreatDoor
namespace Ev
open Go.RowKit

section
variable {P : Program} {E : Env}

inductive RelO (E : Env) : Option AV → Option Value → Prop
  | none : RelO E none none
  | some {x : AV} {y : Value} (h : Rel E x y) : RelO E (some x) (some y)

theorem opdO_ok {nt : Nat} {a : T AV} {ac : Act} (hg : ∀ g, g < 64 → (E g).at g) (ht : TRel E nt a ac.tmps) {x : Option Operand} {v : Option AV} (h : opdO a x = some v) : RelO E v (x.map ac.eval) := by
  cases x with
  | none => cases h; exact .none
  | some x =>
    obtain ⟨y, h1, h2⟩ := oc_some (show oc (opd a x) (fun v => some (some v)) = some v from h)
    cases h2
    exact .some (opd_ok hg ht h1)

/-- A bound: it isn't there, or is a number. -/
theorem numO_ok {o : Option AV} {o' : Option Value} {d a : Nat} (h : numO o d = some a) (hr : RelO E o o') : (o' = none ∧ a = d) ∨ ∃ k, o' = some (.int k (a : Int)) := by
  cases hr with
  | none => cases h; exact .inl ⟨rfl, rfl⟩
  | some hx =>
    cases hx <;> simp only [numO, AV.intC] at h <;> first | (cases h; done) | skip
    exact .inr ⟨_, by rw [natOf_some h]⟩
theorem run_sliceBound (k : IntKind) (a y : Nat) (code : BoundsCode) (h : a ≤ y) (w : World) : (Instr.sliceBound (.int k (a : Int)) y code).run P w = .ok a w := by
  simp [Instr.sliceBound, asIntOf, h]
theorem run_bounds2 {isS : Bool} {len cap a b : Nat} {lo hi : Option AV} {lo' hi' : Option Value} (h1 : numO lo 0 = some a) (h2 : numO hi len = some b) (r1 : RelO E lo lo') (r2 : RelO E hi hi') (hab : a ≤ b) (hbc : b ≤ cap) (w : World) :
    (Instr.sliceBounds isS len cap lo' hi' none).run P w = .ok (a, b, cap) w := by
  rcases numO_ok h1 r1 with ⟨rfl, rfl⟩ | ⟨k, rfl⟩ <;> rcases numO_ok h2 r2 with ⟨rfl, rfl⟩ | ⟨k', rfl⟩ <;> simp [Instr.sliceBounds, run_sliceBound, hab, hbc]
theorem run_bounds3 {isS : Bool} {len cap a b m : Nat} {lo : Option AV} {hi mx : AV} {lo' : Option Value} {hi' mx' : Value} (h1 : numO lo 0 = some a) (h2 : numO (some hi) 0 = some b) (h3 : numO (some mx) 0 = some m)
    (r1 : RelO E lo lo') (r2 : Rel E hi hi') (r3 : Rel E mx mx') (hab : a ≤ b) (hbm : b ≤ m) (hmc : m ≤ cap) (w : World) :
    (Instr.sliceBounds isS len cap lo' (some hi') (some mx')).run P w = .ok (a, b, m) w := by
  rcases numO_ok h1 r1 with ⟨rfl, rfl⟩ | ⟨k, rfl⟩ <;> rcases numO_ok h2 (.some r2) with ⟨hc, _⟩ | ⟨k', hc⟩ <;> first | (cases hc; done) | skip
  all_goals
    rcases numO_ok h3 (.some r3) with ⟨hd, _⟩ | ⟨k'', hd⟩ <;> first | (cases hd; done) | skip
    cases hc
    cases hd
    simp [Instr.sliceBounds, run_sliceBound, hab, hbm, hmc]
theorem extract_mk (l : List UInt8) (a b : Nat) : (ByteArray.mk l.toArray).extract a b = ⟨((l.drop a).take (b - a)).toArray⟩ := by
  apply ByteArray.ext
  apply Array.ext'
  simp [ByteArray.data_extract, Array.toList_extract, List.extract_eq_take_drop]
theorem beq_bi {α : Type} (m n : Nat) (x y : α) : bi (Nat.beq m n) x y = if m = n then x else y := by
  by_cases h : m = n
  · rw [if_pos h, h, show Nat.beq n n = true from by simp]; rfl
  · rw [if_neg h]
    have : Nat.beq m n = false := by cases hb : Nat.beq m n with | false => rfl | true => exact absurd (Nat.eq_of_beq_eq_true hb) h
    rw [this]; rfl
theorem sliceOf_ok {t : TypeId} {x v : AV} {x' : Value} {lo hi mx : Option AV} {lo' hi' mx' : Option Value} (h : sliceOf P t x lo hi mx = some v) (hx : Rel E x x') (r1 : RelO E lo lo') (r2 : RelO E hi hi') (r3 : RelO E mx mx') (w : World) :
    ∃ v', (Instr.sliceAt t x' lo' hi' mx').run P w = .ok v' w ∧ Rel E v v' := by
  cases hu : P.underlying t with
  | none => simp [sliceOf, hu] at h
  | some d =>
    cases d <;> cases hx <;> simp only [sliceOf, hu] at h <;> first | (cases h; done) | skip
    case string.str l =>
      cases r3 <;> (try simp only at h)
      case some => cases h
      obtain ⟨a, ha, h⟩ := oc_some h
      obtain ⟨b, hb, h⟩ := oc_some h
      obtain ⟨hab, h⟩ := bc_some h
      obtain ⟨hbc, h⟩ := bc_some h
      cases h
      refine ⟨_, ?_, .str _⟩
      have hr := run_bounds2 (P := P) (isS := false) (cap := l.length) ha hb r1 r2 (by simpa using hab) (by simpa using hbc) w
      have hsz : (ByteArray.mk l.toArray).size = l.length := by simp [ByteArray.size]
      simp [Instr.sliceAt, Instr.slice, und_run hu, hsz, hr, extract_mk]
    case slice.slice e i off len dr b c cap hb hc =>
      obtain ⟨n, hn, h⟩ := oc_some h
      cases r3 <;> (try simp only at h)
      case none =>
        cases cap with
        | some c0 =>
          try simp only at h
          cases hc
          obtain ⟨p, hp, h⟩ := oc_some h
          obtain ⟨q, hq, h⟩ := oc_some h
          obtain ⟨hpq, h⟩ := bc_some h
          obtain ⟨hqc, h⟩ := bc_some h
          cases h
          have hr := run_bounds2 (P := P) (isS := true) (cap := c) hp hq r1 r2 (by simpa using hpq) (by simpa using hqc) w
          refine ⟨_, by simp [Instr.sliceAt, Instr.slice, und_run hu, hr, szOf_run hn]; rfl, ?_⟩
          rw [beq_bi]
          by_cases hcp : c = p
          · rw [if_pos hcp, if_pos hcp]; exact .slice hb rfl
          · rw [if_neg hcp, if_neg hcp, addr_add]; exact .slice hb rfl
        | none =>
          try simp only at h
          obtain ⟨p, hp, h⟩ := oc_some h
          obtain ⟨q, hq, h⟩ := oc_some h
          obtain ⟨hpq, h⟩ := bc_some h
          obtain ⟨hql, h⟩ := bc_some h
          obtain ⟨hlc, hcx⟩ := hc
          have hpq' : p ≤ q := by simpa using hpq
          have hql' : q ≤ len := by simpa using hql
          cases hpl : (Nat.blt p len || Nat.beq p (nat_lit 0)) with
          | false =>
            rw [hpl, bi_false] at h
            cases h
            have hpl' : ¬ (p < len ∨ p = 0) := fun hh => by
              have : (Nat.blt p len || Nat.beq p 0) = true := by simpa using hh
              rw [show Nat.beq p (nat_lit 0) = Nat.beq p 0 from rfl, this] at hpl
              cases hpl
            have hr := run_bounds2 (P := P) (isS := true) (cap := c) hp hq r1 r2 hpq' (by omega) w
            refine ⟨_, by simp [Instr.sliceAt, Instr.slice, und_run hu, hr, szOf_run hn]; rfl, ?_⟩
            rw [show q - p = 0 from by omega]
            by_cases hcp : c = p
            · rw [if_pos hcp]; exact .eslice
            · rw [if_neg hcp]; exact .eslice
          | true =>
          rw [hpl, bi_true] at h
          cases h
          have hpl' : p < len ∨ p = 0 := by simpa using hpl
          have hr := run_bounds2 (P := P) (isS := true) (cap := c) hp hq r1 r2 hpq' (by omega) w
          refine ⟨_, by simp [Instr.sliceAt, Instr.slice, und_run hu, hr, szOf_run hn]; rfl, ?_⟩
          have hc2 : capOk (E i) none (dr + p) (q - p) (c - p) := by
            refine ⟨by omega, ?_⟩
            cases hE : E i with
            | unborn => rw [hE] at hcx; exact hcx
            | live bb CC => rw [hE] at hcx; simp only at hcx ⊢; omega
            | dead => trivial
          by_cases hcp : c = p
          · have hp0 : p = 0 := by omega
            subst hp0
            rw [if_pos hcp]
            simpa using Rel.slice (off := off) hb hc2
          · rw [if_neg hcp, addr_add]; exact .slice hb hc2
      case some =>
        rename_i mxv mxv' rmx hold
        cases r2 <;> (try simp only at h)
        case none => cases h
        rename_i hiv hiv' rhi
        have fin : ∀ cc, cc ≤ c → sliceMax i off cc n lo hiv mxv = some v → ∃ v', (Instr.sliceAt t (.slice (some ⟨b, off, none⟩) len c) lo' (some hiv') (some mxv')).run P w = .ok v' w ∧ Rel E v v' := by
          intro cc hcc h
          obtain ⟨p, hp, h⟩ := oc_some h
          obtain ⟨q, hq, h⟩ := oc_some h
          obtain ⟨m, hm, h⟩ := oc_some h
          obtain ⟨hpq, h⟩ := bc_some h
          obtain ⟨hqm, h⟩ := bc_some h
          obtain ⟨hmc, h⟩ := bc_some h
          cases h
          have hmc' : m ≤ cc := by simpa using hmc
          have hr := run_bounds3 (P := P) (isS := true) (len := len) (cap := c) hp hq hm r1 rhi rmx (by simpa using hpq) (by simpa using hqm) (by omega) w
          refine ⟨_, by simp [Instr.sliceAt, Instr.slice, und_run hu, hr, szOf_run hn]; rfl, ?_⟩
          rw [beq_bi]
          by_cases hcp : m = p
          · rw [if_pos hcp, if_pos hcp]; exact .slice hb rfl
          · rw [if_neg hcp, if_neg hcp, addr_add]; exact .slice hb rfl
        cases cap with
        | some c0 => cases hc; exact fin _ (Nat.le_refl _) h
        | none => exact fin len hc.1 h
    case slice.eslice e a c =>
      obtain ⟨n, hn, h⟩ := oc_some h
      cases r3 <;> (try simp only at h)
      case some =>
        rename_i mxv mxv' rmx hold
        cases r2 <;> (try simp only at h)
        case none => cases h
        rename_i hiv hiv' rhi
        obtain ⟨p, hp, h⟩ := oc_some h
        obtain ⟨q, hq, h⟩ := oc_some h
        obtain ⟨m, hm, h⟩ := oc_some h
        obtain ⟨hp0, h⟩ := bc_some h
        obtain ⟨hq0, h⟩ := bc_some h
        obtain ⟨hm0, h⟩ := bc_some h
        cases h
        have hp0' : p = 0 := by simpa using hp0
        have hq0' : q = 0 := by simpa using hq0
        have hm0' : m = 0 := by simpa using hm0
        subst hp0' hq0' hm0'
        have hr := run_bounds3 (P := P) (isS := true) (len := 0) (cap := c) hp hq hm r1 rhi rmx (by omega) (by omega) (by omega) w
        exact ⟨.slice (some a) 0 0, by simp [Instr.sliceAt, Instr.slice, und_run hu, hr, szOf_run hn], .eslice⟩
      obtain ⟨p, hp, h⟩ := oc_some h
      obtain ⟨q, hq, h⟩ := oc_some h
      obtain ⟨hp0, h⟩ := bc_some h
      obtain ⟨hq0, h⟩ := bc_some h
      cases h
      have hp0' : p = 0 := by simpa using hp0
      have hq0' : q = 0 := by simpa using hq0
      subst hp0' hq0'
      have hr := run_bounds2 (P := P) (isS := true) (cap := c) hp hq r1 r2 (by omega) (by omega) w
      refine ⟨_, by simp [Instr.sliceAt, Instr.slice, und_run hu, hr, szOf_run hn]; rfl, ?_⟩
      by_cases hcp : c = 0
      · rw [if_pos hcp]; exact .eslice
      · rw [if_neg hcp]; exact .eslice
    case slice.nilslice e =>
      obtain ⟨n, hn, h⟩ := oc_some h
      cases r3 <;> (try simp only at h)
      case some =>
        rename_i mxv mxv' rmx hold
        cases r2 <;> (try simp only at h)
        case none => cases h
        rename_i hiv hiv' rhi
        obtain ⟨p, hp, h⟩ := oc_some h
        obtain ⟨q, hq, h⟩ := oc_some h
        obtain ⟨m, hm, h⟩ := oc_some h
        obtain ⟨hp0, h⟩ := bc_some h
        obtain ⟨hq0, h⟩ := bc_some h
        obtain ⟨hm0, h⟩ := bc_some h
        cases h
        have hp0' : p = 0 := by simpa using hp0
        have hq0' : q = 0 := by simpa using hq0
        have hm0' : m = 0 := by simpa using hm0
        subst hp0' hq0' hm0'
        have hr := run_bounds3 (P := P) (isS := true) (len := 0) (cap := 0) hp hq hm r1 rhi rmx (by omega) (by omega) (by omega) w
        exact ⟨_, by simp [Instr.sliceAt, Instr.slice, und_run hu, hr, szOf_run hn], .nilslice⟩
      obtain ⟨p, hp, h⟩ := oc_some h
      obtain ⟨q, hq, h⟩ := oc_some h
      obtain ⟨hp0, h⟩ := bc_some h
      obtain ⟨hq0, h⟩ := bc_some h
      cases h
      have hp0' : p = 0 := by simpa using hp0
      have hq0' : q = 0 := by simpa using hq0
      subst hp0' hq0'
      have hr := run_bounds2 (P := P) (isS := true) (cap := 0) hp hq r1 r2 (by omega) (by omega) w
      exact ⟨_, by simp [Instr.sliceAt, Instr.slice, und_run hu, hr, szOf_run hn], .nilslice⟩
    case array.ptr len e i off b hb =>
      obtain ⟨n, hn, h⟩ := oc_some h
      cases r3 <;> (try simp only at h)
      case some => cases h
      obtain ⟨p, hp, h⟩ := oc_some h
      obtain ⟨q, hq, h⟩ := oc_some h
      obtain ⟨hpq, h⟩ := bc_some h
      obtain ⟨hqc, h⟩ := bc_some h
      cases h
      have hr := run_bounds2 (P := P) (isS := false) (cap := len) hp hq r1 r2 (by simpa using hpq) (by simpa using hqc) w
      refine ⟨_, by simp [Instr.sliceAt, Instr.sureAddr, und_run hu, hr, szOf_run hn]; rfl, ?_⟩
      rw [beq_bi]
      by_cases hcp : len = p
      · rw [if_pos hcp, if_pos hcp]; exact .slice hb rfl
      · rw [if_neg hcp, if_neg hcp, addr_add]; exact .slice hb rfl
end
end Ev
end Go.Proofs.YtbjllaknnpbkkaaGreatDoor
