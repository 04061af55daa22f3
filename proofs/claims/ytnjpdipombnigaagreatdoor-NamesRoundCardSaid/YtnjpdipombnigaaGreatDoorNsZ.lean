/-
  NamesRound: whatever comes in, it is true.
-/
import Derived.Test.YtnjpdipombnigaaGreatDoorNsM
import Derived.Test.YtnjpdipombnigaaGreatDoorNsG
import Derived.Test.YtnjpdipombnigaaGreatDoorNsW
namespace Go.Proofs.YtnjpdipombnigaaGreatDoor
namespace Ev
open Go.RowKit

def tt : DV := .c (.v (.bool true))
def byD (s : List UInt8) : D := .sl s.length (s.map fun b => .v (.int .u8 b.toNat))
theorem ps_opq {ρ : Nat → Int} {s : List UInt8} {b v m : Nat} (hn : ρ v = (s.length : Int)) (hl : s.length ≤ m) (hb : ∀ i x, s[i]? = some x → ρ (b + i) = (x.toNat : Int)) : psVal ρ [.opq b (.var v) m] = s := by
  show (List.range (min (ρ v).toNat m)).map (fun j => UInt8.ofNat (ρ (b + j)).toNat) ++ [] = s
  rw [List.append_nil, hn, Int.toNat_natCast, Nat.min_eq_left hl]
  apply List.ext_getElem?
  intro i
  rw [List.getElem?_map]
  by_cases hi : i < s.length
  · rw [List.getElem?_range hi, List.getElem?_eq_getElem hi]
    simp only [Option.map_some]
    rw [hb i _ (List.getElem?_eq_getElem hi), Int.toNat_natCast]
    simp
  · rw [List.getElem?_eq_none (by simp; omega), List.getElem?_eq_none (by omega)]
    rfl
theorem ρ_str {vs : List (Nat × SE)} {ρ : Nat → Int} {k : Nat} {x : Int} (h : k < 1000) (e : (lookE k vs).val ρ = x) : How.ρ ⟨vs, nsStr, []⟩ ρ k = x := (How.ρ_at h).trans e
/-- What came in, as it is told. -/
structure SInv (l : List Int) (z : Int) (s : List UInt8) (a : Int) (dn : D) (ρ : Nat → Int) (δ : Nat → D) : Prop where
  z : ρ 0 = z
  len : ρ 1 = (s.length : Int)
  n : ρ 2 = (l.length : Int)
  a : ρ 8 = a
  d0 : δ 0 = rowI l
  d2 : δ 2 = byD s
  d10 : δ 10 = dn
  nm : ∀ i x, s[i]? = some x → ρ (1000 + i) = (x.toNat : Int)
section
variable {l : List Int} {z : Int} {s : List UInt8} {a : Int} {dn : D} {ρ : Nat → Int} {δ : Nat → D}
theorem SInv.name (h : SInv l z s a dn ρ δ) (hs : s.length ≤ 60) : psVal ρ [.opq 1000 (.var 1) 60] = s := ps_opq h.len hs h.nm
theorem SInv.isD (h : SInv l z s a dn ρ δ) (hs : s.length ≤ 60) : IsD ρ δ nmA (.v (.string ⟨s.toArray⟩)) := by
  have := IsD.pstr (ρ := ρ) (δ := δ) [.opq 1000 (.var 1) 60]
  rw [h.name hs] at this
  exact this
theorem SInv.next {H : How} (h : SInv l z s a dn ρ δ) (hs : s.length ≤ 60) (h0 : lookE 0 H.vs = .var 0) (h1 : lookE 1 H.vs = .var 1) (h2 : lookE 2 H.vs = .var 2) (h8 : lookE 8 H.vs = .var 8) (hstr : H.str = nsStr) (hd : H.ds = []) : SInv l z s a dn (H.ρ ρ) (H.δ ρ δ) := by
  have hδ : ∀ k, H.δ ρ δ k = δ k := fun k => by
    show (match lookDT k H.ds with | some t => dtV ρ δ t | none => δ k) = δ k
    rw [hd]
    rfl
  refine ⟨?_, ?_, ?_, ?_, (hδ 0).trans h.d0, (hδ 2).trans h.d2, (hδ 10).trans h.d10, fun i x hx => ?_⟩
  · exact (How.ρ_at (H := H) (ρ := ρ) (k := 0) (by decide)).trans (by rw [h0]; exact h.z)
  · exact (How.ρ_at (H := H) (ρ := ρ) (k := 1) (by decide)).trans (by rw [h1]; exact h.len)
  · exact (How.ρ_at (H := H) (ρ := ρ) (k := 2) (by decide)).trans (by rw [h2]; exact h.n)
  · exact (How.ρ_at (H := H) (ρ := ρ) (k := 8) (by decide)).trans (by rw [h8]; exact h.a)
  · unfold How.ρ instρ
    rw [if_neg (by omega)]
    simp only [hstr, nsStr]
    rw [h.name hs, Nat.add_sub_cancel_left, hx]
theorem fsS_ok (h : SInv l z s a dn ρ δ) (h1 : 1 ≤ s.length) (hs : s.length ≤ 60) (hl : l.length ≤ 30) : ∀ f ∈ fsS, f.holds ρ := by
  have e1 := h.len
  have e2 := h.n
  unfold fsS
  refine fCons (fGe ?_) (fCons (fGe ?_) (fCons (fGe ?_) (fCons (fGe ?_) fNil)))
  all_goals (simp only [SE.val, e1, e2]; omega)
theorem lenN_ok (h : δ 0 = rowI l) (hn : ρ 2 = (l.length : Int)) : DefOk nsTabs ρ δ lenN := len_def (l := numD l) sliceT_22 h (isD_sint hn)
theorem awD_ok : DefOk nsTabs ρ δ awD := defOk_of awakeD (show _ < 1000000000 by decide) .nil (.c (.bool true))
theorem ret_ok : RetD nsTabs nrFn ⟨sRet, ρ, δ⟩ tt := ⟨.bool true, s_ret, .c (.bool true)⟩
theorem und_9 : theProg.underlying 9 = some .string := by kernel_rfl
theorem und_24 : theProg.underlying 24 = some (.slice 5) := by kernel_rfl
theorem und_5 : theProg.underlying 5 = some (.int .u8) := by kernel_rfl
theorem sliceT_24 : sliceT theProg 24 1 = true := by kernel_rfl
theorem aggT_5 : aggT theProg 5 false 1 = true := by kernel_rfl
/-- The numbers' loop. -/
theorem nums_loop (h1 : 1 ≤ s.length) (hs : s.length ≤ 60) (hl : l.length ≤ 30)
    (hgo : fitN l → ∀ (ρ : Nat → Int) (δ : Nat → D), SInv l z s a dn ρ δ → GoD nsTabs nrFn (dropK 3 nrBody) sT2 ρ δ tt) (h : SInv l z s a dn ρ δ) : GoD nsTabs nrFn (dropK 2 nrBody) sT2 ρ δ tt := by
  rw [nr_at2]
  have hp := s_pre2 ((l[0]?).getD 0)
  unfold evL stF at hp
  intro K0 w0 ac w R
  refine goD_of (goS_pre (leads_go (t := sT2) ns_mix ns_names hp (fsS_ok h h1 hs hl) (dCons (lenN_ok h.d0 h.n) dNil)) ?_)
  have h' := h.next (H := ⟨[(5, .lit 0), (6, .lit ((l[0]?).getD 0))], nsStr, []⟩) hs rfl rfl rfl rfl rfl rfl
  intro K0 w0 ac w R
  refine goS_loop (A := fun σ => ∃ i : Nat, i ≤ l.length ∧ SInv l z s a dn σ.ρ σ.δ ∧ σ.ρ 5 = (i : Int) ∧ (∀ x, l[i]? = some x → σ.ρ 6 = x) ∧ σ.t = sT2l ∧ (∀ j x, j < i → l[j]? = some x → 0 ≤ x ∧ x ≤ 4294967295)) (μ := fun σ => (30 - σ.ρ 5).toNat) ?_ ⟨sT2l, _, _⟩ ⟨0, Nat.zero_le _, h', ρ_str (vs := [(5, .lit 0), (6, .lit ((l[0]?).getD 0))]) (ρ := ρ) (k := 5) (by decide) rfl, fun x hx => ?_, rfl, fun j x hj => absurd hj (Nat.not_lt_zero j)⟩
  · rintro ⟨t, ρ, δ⟩ ⟨i, hi, hv, e5, e6, ht, hfit⟩
    have ht : t = sT2l := ht
    subst ht
    have hv : SInv l z s a dn ρ δ := hv
    have e5 : ρ 5 = (i : Int) := e5
    have hS := fsS_ok hv h1 hs hl
    have e2 := hv.n
    by_cases hin : i < l.length
    · have hxi : l[i]? = some (l[i]) := List.getElem?_eq_getElem hin
      have e6 : ρ 6 = l[i] := e6 _ hxi
      have hfs : ∀ f ∈ fs2, f.holds ρ := by
        unfold fs2
        refine fCons (fLt ?_) (fCons (fGe ?_) (fCons (fGe ?_) hS))
        all_goals (simp only [SE.val, e2, e5]; omega)
      have hdrop : (numD l).drop (i * 1 + 0) = .v (.int .i64 (l[i])) :: (numD l).drop (i + 1) := by
        rw [Nat.mul_one, Nat.add_zero, List.drop_eq_getElem_cons (by rw [numD_len]; exact hin)]
        simp [numD]
      have hds : ∀ d ∈ ds2, DefOk nsTabs ρ δ d := by
        unfold ds2
        refine dCons ?_ (dCons ?_ (dCons awD_ok dNil))
        · exact indexAddr_def (n := l.length) (l := numD l) (e := .var 5) sliceT_22 hv.d0 (by rw [numD_len, Nat.mul_one]) (.sint _ _) (by show 0 ≤ ρ 5; omega) (by show ρ 5 < _; omega)
        · refine load_def (n := l.length) (z := 1) (l := numD l) (g := false) (cs := [.sint .i64 (.var 6)]) (N := i) aggT_2 hv.d0 (by rw [numD_len, Nat.mul_one]) e5 ?_ rfl
          rw [hdrop]
          exact .cons (isD_sint e6) .nil
      by_cases hlo : l[i] < 0
      · have hr := s_2lo
        unfold evL stF at hr
        exact .inr (.inr ⟨⟨sRet, _, _⟩, leads_go (t := sT2l) ns_mix ns_names hr (fCons (fLt (by show ρ 6 < 0; omega)) hfs) hds, ret_ok⟩)
      · by_cases hhi : 4294967295 < l[i]
        · have hr := s_2hi
          unfold evL stF at hr
          exact .inr (.inr ⟨⟨sRet, _, _⟩, leads_go (t := sT2l) ns_mix ns_names hr (fCons (fGe (by show 0 ≤ ρ 6; omega)) (fCons (fLt (by show 4294967295 < ρ 6; omega)) hfs)) hds, ret_ok⟩)
        · have hr := s_2ok ((l[i + 1]?).getD 0)
          unfold evL stF at hr
          have hv' := hv.next (H := ⟨[(5, .lin 1 [(5, 1)]), (6, .lit ((l[i + 1]?).getD 0))], nsStr, []⟩) hs rfl rfl rfl rfl rfl rfl
          have e5' : How.ρ ⟨[(5, .lin 1 [(5, 1)]), (6, .lit ((l[i + 1]?).getD 0))], nsStr, []⟩ ρ 5 = ((i + 1 : Nat) : Int) := by
            refine ρ_str (vs := [(5, .lin 1 [(5, 1)]), (6, .lit ((l[i + 1]?).getD 0))]) (ρ := ρ) (k := 5) (by decide) ?_
            show 1 + (1 * ρ 5 + 0) = _
            rw [e5]; omega
          refine .inl ⟨⟨sT2l, _, _⟩, ⟨i + 1, by omega, hv', e5', fun x hx => ?_, rfl, fun j x hj hx => ?_⟩, ?_, leads_go (t := sT2l) ns_mix ns_names hr (fCons (fGe (by show 0 ≤ ρ 6; omega)) (fCons (fGe (by show ρ 6 ≤ 4294967295; omega)) hfs)) hds⟩
          · refine ρ_str (vs := [(5, .lin 1 [(5, 1)]), (6, .lit ((l[i + 1]?).getD 0))]) (ρ := ρ) (k := 6) (by decide) ?_
            show (l[i + 1]?).getD 0 = x
            rw [hx]; rfl
          · by_cases hji : j = i
            · subst hji
              rw [hxi] at hx
              cases hx
              omega
            · exact hfit j x (by omega) hx
          · show (30 - How.ρ _ ρ 5).toNat < (30 - ρ 5).toNat
            rw [e5', e5]; omega
    · have hr := s_2x
      unfold evL stF at hr
      have hx : ∀ f ∈ fs2x, f.holds ρ := by
        unfold fs2x
        exact fCons (fGe (by show ρ 2 ≤ ρ 5; omega)) hS
      refine .inr (.inl ⟨⟨sT2, _, _⟩, leads_go (t := sT2l) ns_mix ns_names hr hx dNil, hgo (fun x hx => ?_) _ _ (hv.next (H := ⟨[], nsStr, []⟩) hs rfl rfl rfl rfl rfl rfl)⟩)
      obtain ⟨j, hj, rfl⟩ := List.getElem_of_mem hx
      exact hfit j _ (by omega) (List.getElem?_eq_getElem hj)
  · refine ρ_str (vs := [(5, .lit 0), (6, .lit ((l[0]?).getD 0))]) (ρ := ρ) (k := 6) (by decide) ?_
    show (l[0]?).getD 0 = x
    rw [hx]; rfl
/-- The name's loop. -/
theorem name_loop (h1 : 1 ≤ s.length) (hs : s.length ≤ 60) (hl : l.length ≤ 30)
    (hgo : (∀ b ∈ s, isPr b) → ∀ (ρ : Nat → Int) (δ : Nat → D), SInv l z s a dn ρ δ → GoD nsTabs nrFn (dropK 4 nrBody) sT2 ρ δ tt) (h : SInv l z s a dn ρ δ) : GoD nsTabs nrFn (dropK 3 nrBody) sT2 ρ δ tt := by
  rw [nr_at3]
  have hp := s_pre3 (((s[0]?).getD 0).toNat : Int)
  unfold evL stF at hp
  have hd3 : ∀ d ∈ ds3p, DefOk nsTabs ρ δ d := by
    unfold ds3p
    exact dCons (bytes_def und_9 und_24 und_5 (h.isD hs) h.d2) (dCons (len_def (l := s.map fun (b : UInt8) => D.v (.int .u8 (b.toNat : Int))) (n := s.length) sliceT_24 h.d2 (isD_sint h.len)) dNil)
  intro K0 w0 ac w R
  refine goD_of (goS_pre (leads_go (t := sT2) ns_mix ns_names hp (fsS_ok h h1 hs hl) hd3) ?_)
  have h' := h.next (H := ⟨[(5, .lit 0), (6, .lit (((s[0]?).getD 0).toNat : Int))], nsStr, []⟩) hs rfl rfl rfl rfl rfl rfl
  intro K0 w0 ac w R
  refine goS_loop (A := fun σ => ∃ i : Nat, i ≤ s.length ∧ SInv l z s a dn σ.ρ σ.δ ∧ σ.ρ 5 = (i : Int) ∧ (∀ x, s[i]? = some x → σ.ρ 6 = (x.toNat : Int)) ∧ σ.t = sT3l ∧ (∀ j x, j < i → s[j]? = some x → isPr x)) (μ := fun σ => (60 - σ.ρ 5).toNat) ?_ ⟨sT3l, _, _⟩ ⟨0, Nat.zero_le _, h', ρ_str (vs := [(5, .lit 0), (6, .lit (((s[0]?).getD 0).toNat : Int))]) (ρ := ρ) (k := 5) (by decide) rfl, fun x hx => ?_, rfl, fun j x hj => absurd hj (Nat.not_lt_zero j)⟩
  · rintro ⟨t, ρ, δ⟩ ⟨i, hi, hv, e5, e6, ht, hfit⟩
    have ht : t = sT3l := ht
    subst ht
    have hv : SInv l z s a dn ρ δ := hv
    have e5 : ρ 5 = (i : Int) := e5
    have hS := fsS_ok hv h1 hs hl
    have e2 := hv.len
    by_cases hin : i < s.length
    · have hxi : s[i]? = some (s[i]) := List.getElem?_eq_getElem hin
      have e6 : ρ 6 = ((s[i]).toNat : Int) := e6 _ hxi
      have hfs : ∀ f ∈ fs3, f.holds ρ := by
        unfold fs3
        refine fCons (fLt ?_) (fCons (fGe ?_) (fCons (fGe ?_) hS))
        all_goals (simp only [SE.val, e2, e5]; omega)
      have hdrop : (s.map fun b => D.v (.int .u8 b.toNat)).drop (i * 1 + 0) = .v (.int .u8 (s[i]).toNat) :: (s.map fun b => D.v (.int .u8 b.toNat)).drop (i + 1) := by
        rw [Nat.mul_one, Nat.add_zero, List.drop_eq_getElem_cons (by rw [List.length_map]; exact hin)]
        simp
      have hds : ∀ d ∈ ds3, DefOk nsTabs ρ δ d := by
        unfold ds3
        refine dCons ?_ (dCons ?_ (dCons awD_ok dNil))
        · exact indexAddr_def (n := s.length) (l := s.map fun (b : UInt8) => D.v (.int .u8 (b.toNat : Int))) (e := .var 5) sliceT_24 hv.d2 (by rw [List.length_map, Nat.mul_one]) (.sint _ _) (by show 0 ≤ ρ 5; omega) (by show ρ 5 < _; omega)
        · refine load_def (n := s.length) (z := 1) (l := s.map fun (b : UInt8) => D.v (.int .u8 (b.toNat : Int))) (g := false) (cs := [.sint .u8 (.var 6)]) (N := i) aggT_5 hv.d2 (by rw [List.length_map, Nat.mul_one]) e5 ?_ rfl
          rw [hdrop]
          exact .cons (isD_sint e6) .nil
      by_cases hlo : (s[i]).toNat < 32
      · have hr := s_3lo
        unfold evL stF at hr
        exact .inr (.inr ⟨⟨sRet, _, _⟩, leads_go (t := sT3l) ns_mix ns_names hr (fCons (fLt (by show ρ 6 < 32; omega)) hfs) hds, ret_ok⟩)
      · by_cases hhi : 126 < (s[i]).toNat
        · have hr := s_3hi
          unfold evL stF at hr
          exact .inr (.inr ⟨⟨sRet, _, _⟩, leads_go (t := sT3l) ns_mix ns_names hr (fCons (fGe (by show 32 ≤ ρ 6; omega)) (fCons (fLt (by show 126 < ρ 6; omega)) hfs)) hds, ret_ok⟩)
        · have hr := s_3ok (((s[i + 1]?).getD 0).toNat : Int)
          unfold evL stF at hr
          have hv' := hv.next (H := ⟨[(5, .lin 1 [(5, 1)]), (6, .lit (((s[i + 1]?).getD 0).toNat : Int))], nsStr, []⟩) hs rfl rfl rfl rfl rfl rfl
          have e5' : How.ρ ⟨[(5, .lin 1 [(5, 1)]), (6, .lit (((s[i + 1]?).getD 0).toNat : Int))], nsStr, []⟩ ρ 5 = ((i + 1 : Nat) : Int) := by
            refine ρ_str (vs := [(5, .lin 1 [(5, 1)]), (6, .lit (((s[i + 1]?).getD 0).toNat : Int))]) (ρ := ρ) (k := 5) (by decide) ?_
            show 1 + (1 * ρ 5 + 0) = _
            rw [e5]; omega
          refine .inl ⟨⟨sT3l, _, _⟩, ⟨i + 1, by omega, hv', e5', fun x hx => ?_, rfl, fun j x hj hx => ?_⟩, ?_, leads_go (t := sT3l) ns_mix ns_names hr (fCons (fGe (by show 32 ≤ ρ 6; omega)) (fCons (fGe (by show ρ 6 ≤ 126; omega)) hfs)) hds⟩
          · refine ρ_str (vs := [(5, .lin 1 [(5, 1)]), (6, .lit (((s[i + 1]?).getD 0).toNat : Int))]) (ρ := ρ) (k := 6) (by decide) ?_
            show (((s[i + 1]?).getD 0).toNat : Int) = x.toNat
            rw [hx]; rfl
          · by_cases hji : j = i
            · subst hji
              rw [hxi] at hx
              cases hx
              exact ⟨by omega, by omega⟩
            · exact hfit j x (by omega) hx
          · show (60 - How.ρ _ ρ 5).toNat < (60 - ρ 5).toNat
            rw [e5', e5]; omega
    · have hr := s_3x
      unfold evL stF at hr
      have hx : ∀ f ∈ fs3x, f.holds ρ := by
        unfold fs3x
        exact fCons (fGe (by show ρ 1 ≤ ρ 5; omega)) hS
      refine .inr (.inl ⟨⟨sT2, _, _⟩, leads_go (t := sT3l) ns_mix ns_names hr hx dNil, hgo (fun x hx => ?_) _ _ (hv.next (H := ⟨[], nsStr, []⟩) hs rfl rfl rfl rfl rfl rfl)⟩)
      obtain ⟨j, hj, rfl⟩ := List.getElem_of_mem hx
      exact hfit j _ (by omega) (List.getElem?_eq_getElem hj)
  · refine ρ_str (vs := [(5, .lit 0), (6, .lit (((s[0]?).getD 0).toNat : Int))]) (ρ := ρ) (k := 6) (by decide) ?_
    show (((s[0]?).getD 0).toNat : Int) = x.toNat
    rw [hx]; rfl
/-- A family, at a name. -/
structure FamA (F : Fam) (s : List UInt8) (a : Int) (dn : D) : Prop where
  d : FamD F a dn
  r : FamS F
  a32 : ∀ (ρ : Nat → Int) (δ : Nat → D), ρ 8 = a → IsD ρ δ F.A32 (.v (.int .u32 a))
  fnd : ∀ (ρ : Nat → Int) (δ : Nat → D), ρ 8 = a → IsD ρ δ nmA (.v (.string ⟨s.toArray⟩)) → DefOk nsTabs ρ δ ⟨153, [], [.agg [.nilslice, .nilmap], nmA], F.fnd⟩
/-- From the world that is made on. -/
theorem made_go {F : Fam} (A : FamA F s a dn) (h1 : 1 ≤ s.length) (hs : s.length ≤ 60) (hl : l.length ≤ 30) (hz0 : 0 ≤ z) (hz1 : z ≤ 255) (hf : fitN l) (hp : ∀ b ∈ s, isPr b) (h : SInv l z s a dn ρ δ) : GoD nsTabs nrFn (dropK 5 nrBody) nsT5 ρ δ tt := by
  have hz' : (z.toNat : Int) = z := by omega
  have hk := allTo_ok k_all z.toNat (by omega)
  unfold kOk at hk
  rw [Bool.and_eq_true, hz'] at hk
  obtain ⟨hk1, hk2⟩ := hk
  have hk1 := of_decide_eq_true hk1
  have hk2 := of_decide_eq_true hk2
  obtain ⟨k, hkk⟩ : ∃ k : Nat, opVal .add .i64 (opVal .rem .u8 z 8) 1 = (k : Int) := ⟨_, (Int.toNat_of_nonneg (by omega)).symm⟩
  have hkv : kE.val ρ = (k : Int) := by
    show opVal .add .i64 (opVal .rem .u8 (ρ 0) 8) 1 = _
    rw [h.z]; exact hkk
  have hr := A.r.five
  unfold evL stF at hr
  have hfs : ∀ f ∈ fs5 F, f.holds ρ := by
    have e0 := h.z
    have e1 := h.len
    have e2 := h.n
    unfold fs5
    refine fCons (fGe ?_) (fCons (fGe ?_) (fCons (fGe ?_) (fCons (fGe ?_) (fCons (fGe ?_) (fCons (fGe ?_) (A.d.fa ρ h.a))))))
    all_goals (simp only [SE.val, e0, e1, e2]; omega)
  have hnm := h.isD hs
  have hds : ∀ d ∈ ds5 F, DefOk nsTabs ρ δ d := by
    unfold ds5
    refine dCons ?_ (dCons ?_ (dCons (A.fnd ρ δ h.a hnm) (dCons ?_ (dCons ?_ (dCons ?_ (dCons (lenN_ok h.d0 h.n) (A.d.nm ρ δ h.a h.d10)))))))
    · exact defOk_of (packNameD h1 hs hp) (show _ < 1000000000 by decide) (.cons (.agg (.cons (.int _ _) (.cons (.psl (z := 1) rfl (.cons (.int _ _) .nil)) (.cons hnm (.cons .nilslice .nil))))) .nil) (.c (.int _ _))
    · exact defOk_of (rightD h1 hs hp) (show _ < 1000000000 by decide) (.cons (.c hnm) .nil) (.c (.bool true))
    · exact defOk_of (packChangeD hl hf A.d.h1 A.d.h2) (show _ < 1000000000 by decide) (.cons (.agg (.cons (.int _ _) (.cons (.psl (z := 1) rfl (.cons (.int _ _) (.cons (A.d.at64 _ _ h.a) (.cons (.int _ _) (.cons (.int _ _) (.cons (.int _ _) .nil)))))) (.cons (.str []) (.cons (isD_opq h.d0) .nil))))) .nil) (.c (.int _ _))
    · exact defOk_of (checkD hl hf A.d.h1 A.d.h2) (show _ < 1000000000 by decide) (.cons (.agg (.cons (A.a32 _ _ h.a) (.cons (.int _ _) (.cons (.int _ _) (.cons (isD_opq h.d0) .nil))))) .nil) (.c (.int _ _))
    · exact defOk_of (joinD (l := l) hl) (show _ < 1000000000 by decide) (.cons (.c .nilslice) (.cons (.c (isD_opq h.d0)) .nil)) (.c (isD_opq h.d0))
  intro K0 w0 ac w R
  refine goD_run (t := nsT5) (k := 7) ns_mix ns_names hr hfs hds ?_
  have e0 : How.δ ⟨[(4, kE)], none, []⟩ ρ δ 0 = rowI l := h.d0
  have e2 : How.ρ ⟨[(4, kE)], none, []⟩ ρ 2 = (l.length : Int) := ρ_none (vs := [(4, kE)]) (ρ := ρ) (k := 2) (by decide) h.n
  have e4 : How.ρ ⟨[(4, kE)], none, []⟩ ρ 4 = (k : Int) := ρ_none (vs := [(4, kE)]) (ρ := ρ) (k := 4) (by decide) hkv
  have e8 : How.ρ ⟨[(4, kE)], none, []⟩ ρ 8 = a := ρ_none (vs := [(4, kE)]) (ρ := ρ) (k := 8) (by decide) h.a
  have e10 : How.δ ⟨[(4, kE)], none, []⟩ ρ δ 10 = dn := h.d10
  generalize How.ρ ⟨[(4, kE)], none, []⟩ ρ = ρ1 at e2 e4 e8 ⊢
  generalize How.δ ⟨[(4, kE)], none, []⟩ ρ δ = δ1 at e0 e10 ⊢
  rw [drop_57, nr_at12]
  have hpre := A.r.pre (rowI ((l.drop 0).take k)) (rowI (l.take (0 + k)))
  unfold evL stF at hpre
  have hfz : ∀ f ∈ fz, f.holds ρ1 := by
    unfold fz
    refine fCons (fGe ?_) (fCons (fGe ?_) fNil)
    all_goals (simp only [SE.val, e2]; omega)
  intro K0 w0 ac w R
  refine goD_of (goS_pre (leads_go (t := mOf F.R0) ns_mix ns_names hpre hfz (dCons (lenN_ok e0 e2) dNil)) ?_)
  intro K0 w0 ac w R
  refine rounds (k := k) (a := a) (dn := dn) (l := l) A.d hl (by omega) (by omega) (fun hnil ρ δ n d0 => ?_) (fun ρ δ n d0 d5 => ?_) ⟨?_, ?_, ?_, ?_, ?_, ?_, fun hh => absurd hh (Nat.lt_irrefl 0), ?_, ?_, ?_⟩
  · subst hnil
    have hr := A.r.z0
    unfold evL stF at hr
    intro K0 w0 ac w R
    refine goD_fin (t := F.Z0) ns_mix ns_names hr (fs := fz) ?_ ?_ (.c (.bool true))
    · unfold fz
      refine fCons (fGe ?_) (fCons (fGe ?_) fNil)
      all_goals (simp only [SE.val, n, List.length_nil]; omega)
    · show ∀ d ∈ [_, awD], _
      exact dCons (defOk_of same0D (show _ < 1000000000 by decide) (.cons (.c .nilslice) (.cons (.c (isD_opq d0)) .nil)) (.c (.bool true))) (dCons awD_ok dNil)
  · have hr := A.r.z1
    unfold evL stF at hr
    intro K0 w0 ac w R
    refine goD_fin (t := F.Z1) ns_mix ns_names hr (fs := fz) ?_ ?_ (.c (.bool true))
    · unfold fz
      refine fCons (fGe ?_) (fCons (fGe ?_) fNil)
      all_goals (simp only [SE.val, n]; omega)
    · show ∀ d ∈ [_, awD], _
      exact dCons (defOk_of (sameD hl) (show _ < 1000000000 by decide) (.cons (.c (isD_opq d5)) (.cons (.c (isD_opq d0)) .nil)) (.c (.bool true))) (dCons awD_ok dNil)
  · exact ρ_none (vs := [(3, .lit 0), (5, .lit 0)]) (ρ := ρ1) (k := 2) (by decide) e2
  · exact ρ_none (vs := [(3, .lit 0), (5, .lit 0)]) (ρ := ρ1) (k := 3) (by decide) rfl
  · exact ρ_none (vs := [(3, .lit 0), (5, .lit 0)]) (ρ := ρ1) (k := 4) (by decide) e4
  · exact ρ_none (vs := [(3, .lit 0), (5, .lit 0)]) (ρ := ρ1) (k := 5) (by decide) rfl
  · exact ρ_none (vs := [(3, .lit 0), (5, .lit 0)]) (ρ := ρ1) (k := 8) (by decide) e8
  · exact e0
  · rfl
  · rfl
  · exact e10
/-- Where the lengths are right. -/
theorem good_go {F : Fam} (A : FamA F s a dn) (h1 : 1 ≤ s.length) (hs : s.length ≤ 60) (hl : l.length ≤ 30) (hz0 : 0 ≤ z) (hz1 : z ≤ 255) (h : SInv l z s a dn ρ δ) : GoD nsTabs nrFn nrBody sT0 ρ δ tt := by
  have hr := s_01
  unfold evL stF at hr
  have hd : ∀ d ∈ ds01, DefOk nsTabs ρ δ d := by
    unfold ds01
    refine dCons (lenN_ok h.d0 h.n) (dCons (eqTx_def (h.isD hs) (.str []) ?_) (dCons (lenTx_def und_9 (h.isD hs) (isD_sint h.len)) dNil))
    symm
    rw [decide_eq_false_iff_not]
    intro e
    rw [e] at h1
    exact absurd h1 (by decide)
  intro K0 w0 ac w R
  refine goD_run (t := sT0) (k := 2) ns_mix ns_names hr (fsS_ok h h1 hs hl) hd ?_
  refine nums_loop h1 hs hl (fun hf ρ δ h => ?_) (h.next (H := ⟨[], nsStr, []⟩) hs rfl rfl rfl rfl rfl rfl)
  refine name_loop h1 hs hl (fun hp ρ δ h => ?_) h
  have hr := s_4
  unfold evL stF at hr
  intro K0 w0 ac w R
  refine goD_run (t := sT2) (k := 1) ns_mix ns_names hr (fsS_ok h h1 hs hl) dNil ?_
  rw [drop_45]
  exact made_go A h1 hs hl hz0 hz1 hf hp (h.next (H := ⟨[], nsStr, []⟩) hs rfl rfl rfl rfl rfl rfl)
end
end Ev
end Go.Proofs.YtnjpdipombnigaaGreatDoor
