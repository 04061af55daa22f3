/-
  NamesRound: the loop that gets the numbers, piece by piece: its rounds by runs.
-/
import Derived.Test.YtnjpdipombnigaaGreatDoorNsD
import Derived.Test.YtnjpdipombnigaaGreatDoorNsTm
namespace Go.Proofs.YtnjpdipombnigaaGreatDoor
namespace Ev
open Go.RowKit

theorem ρ_none {vs : List (Nat × SE)} {ρ : Nat → Int} {k : Nat} {x : Int} (h : k < 1000) (e : (lookE k vs).val ρ = x) : How.ρ ⟨vs, none, []⟩ ρ k = x := (How.ρ_at h).trans e
noncomputable def vA : List (Nat × SE) := [(3, .var 4), (5, .lin 1 [(5, 1)])]
noncomputable def vB : List (Nat × SE) := [(3, .lin 0 [(3, 1), (4, 1)]), (5, .lin 1 [(5, 1)])]
noncomputable def nrFn : Func := Tryz.f3
noncomputable def nrBody : Code := match nrFn.body with
  | some c => c
  | none => .skip
noncomputable def headC (c : Code) : Code := match c with
  | .seq x _ => x
  | c => c
noncomputable def blockB (c : Code) : Code := match c with
  | .seq _ (.block _ (.loop b)) => b
  | c => c
noncomputable def nrLb : Code := blockB (headC (dropK 12 nrBody))
noncomputable def nrPre : Code := headC (headC (dropK 12 nrBody))
noncomputable def nrAft : Code := dropK 13 nrBody
theorem drop_45 : dropK 1 (dropK 4 nrBody) = dropK 5 nrBody := by kernel_rfl
theorem drop_57 : dropK 7 (dropK 5 nrBody) = dropK 12 nrBody := by kernel_rfl
theorem nr_at12 : dropK 12 nrBody = .seq (.seq nrPre (.block 4 (.loop nrLb))) nrAft := by kernel_rfl
/-- What is looked up. -/
noncomputable def nrL : List FuncId := [19, 152, 153, 159, 161, 7, 82, 4]
/-- A name that is new; one that is known. -/
structure Fam where
  R0 : Tm
  R1 : Tm
  Z0 : Tm
  Z1 : Tm
  fl : List FuncId
  A64 : AV
  nm : List Def
  fa : List Fact
  A32 : AV
  fnd : AV
noncomputable def famN : Fam := ⟨nR0, nR1, nZ0, nZ1, nrL, .int .i64 11, [], [], .int .u32 11, .tuple [.int .u32 0, .bool false]⟩
noncomputable def famK : Fam := ⟨kR0, kR1, kZ0, kZ1, 93 :: nrL, .sint .i64 (.var 8), [⟨93, [], [.agg [.nilslice, .nilmap], .sint .u32 (.var 8)], .tuple [.opq 10, .bool true]⟩], [⟨true, .var 8, .lit 1, false⟩, ⟨true, .lit 10, .var 8, false⟩], .sint .u32 (.var 8), .tuple [.sint .u32 (.var 8), .bool true]⟩
noncomputable def fsR (F : Fam) : List Fact := ⟨true, .var 2, .lit 0, false⟩ :: ⟨true, .lit 30, .var 2, false⟩ :: ⟨true, .var 3, .lit 0, false⟩ :: ⟨true, .lit 30, .var 3, false⟩ :: ⟨true, .var 4, .lit 1, false⟩ :: ⟨true, .lit 8, .var 4, false⟩ :: ⟨true, .var 5, .lit 0, false⟩ :: ⟨true, .lit 30, .var 5, false⟩ :: ⟨true, .var 5, .lin 1 [(2, 1)], true⟩ :: F.fa
noncomputable def catD (nil : Bool) (nl : SE) : Def := match nil with
  | true => ⟨catF, [1, 0, 0, 6, 6], [], .sint .i64 nl⟩
  | false => ⟨catF, [1, 1, 5, 6, 9], [], .sint .i64 nl⟩
noncomputable def rdDefs (F : Fam) (nil : Bool) (m : AV) (hi nl : SE) : List Def :=
  ⟨19, [], [.agg [.int .i64 15, .psl 6 [.int .i64 1048577, F.A64, .int .i64 0, m, .sint .i64 (.var 4), .int .i64 1], .str [], .nilslice]], .int .i64 0⟩ ::
  ⟨opBase + 9, [22], [.opq 0], .sint .i64 (.var 2)⟩ ::
  ⟨opBase + 6, [22], [.opq 0, m, .sint .i64 hi], .opq 6⟩ ::
  ⟨161, [], [.nilslice, .opq 6], .opq 6⟩ ::
  ⟨161, [], [.nilslice, .opq 0], .opq 0⟩ ::
  ⟨82, [], [.opq 6], .opq 6⟩ ::
  catD nil nl :: F.nm
noncomputable def runR (F : Fam) (t : Tm) (fs : List Fact) (ds : List Def) : C := (ev theProg (ctrL theProg F.fl) 100000).code nrFn.ntmps none nrLb t.fr ((Tm.mk t.c t.objs fs t.frl).stD nsTabs ds)
noncomputable def v3 : AV := .sint .i64 (.var 3)
noncomputable def c0 : List Fact := [⟨false, .var 2, .lit 0, true⟩]
noncomputable def c1 : List Fact := [⟨true, .lit 0, .var 2, true⟩, ⟨true, .var 2, .var 4, true⟩]
noncomputable def c2 : List Fact := [⟨true, .lit 0, .var 2, true⟩, ⟨false, .var 2, .var 4, true⟩]
noncomputable def c3 : List Fact := [⟨true, .var 4, .var 2, true⟩]
noncomputable def c4 : List Fact := [⟨true, .lin 0 [(2, 1), (3, -1)], .var 4, true⟩, ⟨true, .lit 0, .var 3, true⟩, ⟨true, .var 3, .var 2, true⟩]
noncomputable def c5 : List Fact := [⟨false, .lin 0 [(2, 1), (3, -1)], .var 4, true⟩, ⟨true, .lit 0, .var 3, true⟩, ⟨true, .var 3, .var 2, true⟩]
noncomputable def c6 : List Fact := [⟨true, .var 4, .lin 0 [(2, 1), (3, -1)], true⟩, ⟨true, .lit 0, .var 3, true⟩, ⟨true, .var 3, .var 2, true⟩]
noncomputable def s34 : SE := .lin 0 [(3, 1), (4, 1)]
structure FamOk (F : Fam) : Prop where
  a0 : wayAuto (runR F F.R0 (c0 ++ fsR F) (rdDefs F true (.int .i64 0) (.var 2) (.var 2))) (isAX (.exit 4)) ⟨[], none, []⟩ nsTabs F.Z0 = true
  a1 : wayAuto (runR F F.R0 (c1 ++ fsR F) (rdDefs F true (.int .i64 0) (.var 2) (.var 2))) (isAX (.exit 4)) ⟨[], none, [(5, .ext 6 0 [])]⟩ nsTabs F.Z1 = true
  a2 : wayAuto (runR F F.R0 (c2 ++ fsR F) (rdDefs F true (.int .i64 0) (.var 4) (.var 2))) (isAX (.exit 4)) ⟨[], none, [(5, .ext 6 0 [])]⟩ nsTabs F.Z1 = true
  a3 : ∀ d6 d9 : D, wayAuto (runR F F.R0 (c3 ++ fsR F) (rdDefs F true (.int .i64 0) (.var 4) (.var 4))) (isAX .normal) ⟨[(3, .var 4), (5, .lin 1 [(5, 1)])], none, [(5, .ext 6 0 []), (6, .is d6), (9, .is d9)]⟩ nsTabs F.R1 = true
  b1 : wayAuto (runR F F.R1 (c4 ++ fsR F) (rdDefs F false v3 (.var 2) (.var 2))) (isAX (.exit 4)) ⟨[], none, [(5, .ext 9 0 [])]⟩ nsTabs F.Z1 = true
  b2 : wayAuto (runR F F.R1 (c5 ++ fsR F) (rdDefs F false v3 s34 (.var 2))) (isAX (.exit 4)) ⟨[], none, [(5, .ext 9 0 [])]⟩ nsTabs F.Z1 = true
  b3 : ∀ d6 d9 : D, wayAuto (runR F F.R1 (c6 ++ fsR F) (rdDefs F false v3 s34 s34)) (isAX .normal) ⟨[(3, s34), (5, .lin 1 [(5, 1)])], none, [(5, .ext 9 0 []), (6, .is d6), (9, .is d9)]⟩ nsTabs F.R1 = true
set_option maxRecDepth 100000 in
theorem famN_ok : FamOk famN := ⟨by kernel_rfl, by kernel_rfl, by kernel_rfl, fun _ _ => by kernel_rfl, by kernel_rfl, by kernel_rfl, fun _ _ => by kernel_rfl⟩
set_option maxRecDepth 100000 in
theorem famK_ok : FamOk famK := ⟨by kernel_rfl, by kernel_rfl, by kernel_rfl, fun _ _ => by kernel_rfl, by kernel_rfl, by kernel_rfl, fun _ _ => by kernel_rfl⟩
/-- What holds ahead of a round: so many are there already. -/
structure RInv (l : List Int) (k m i : Nat) (a : Int) (dn : D) (σ : RState) : Prop where
  en : σ.ρ 2 = (l.length : Int)
  em : σ.ρ 3 = (m : Int)
  ek : σ.ρ 4 = (k : Int)
  ei : σ.ρ 5 = (i : Int)
  ea : σ.ρ 8 = a
  d0 : σ.δ 0 = rowI l
  d5 : 0 < m → σ.δ 5 = rowI (l.take m)
  d6 : σ.δ 6 = rowI ((l.drop m).take k)
  d9 : σ.δ 9 = rowI (l.take (m + k))
  d10 : σ.δ 10 = dn
/-- What is known of a name's atom. -/
structure FamD (F : Fam) (a : Int) (dn : D) : Prop where
  ok : FamOk F
  h1 : 1 ≤ a
  h2 : a ≤ 11
  at64 : ∀ (ρ : Nat → Int) (δ : Nat → D), ρ 8 = a → IsD ρ δ F.A64 (.v (.int .i64 a))
  nm : ∀ (ρ : Nat → Int) (δ : Nat → D), ρ 8 = a → δ 10 = dn → ∀ d ∈ F.nm, DefOk nsTabs ρ δ d
  fa : ∀ (ρ : Nat → Int), ρ 8 = a → ∀ f ∈ F.fa, f.holds ρ
theorem isD_opq {ρ : Nat → Int} {δ : Nat → D} {k : Nat} {d : D} (h : δ k = d) : IsD ρ δ (.opq k) d := by
  subst h
  exact .opq k
theorem piece_row {l : List Int} {m k : Nat} (hm : m ≤ l.length) : rowI ((l.drop m).take k) = .sl (min (m + k) l.length - m) (((numD l).drop (m * 1)).take ((min (m + k) l.length - m) * 1)) := by
  have h : (l.drop m).take k = (l.drop m).take (min (m + k) l.length - m) := by
    rw [List.take_eq_take_iff, List.length_drop]; omega
  unfold rowI numD
  rw [h, Nat.mul_one, Nat.mul_one, List.map_take, List.map_drop]
  congr 1
  rw [List.length_take, List.length_drop]
  omega
section
variable {F : Fam} {l : List Int} {k m i : Nat} {a : Int} {dn : D} {σ : RState}
theorem fsR_ok (D : FamD F a dn) (inv : RInv l k m i a dn σ) (hl : l.length ≤ 30) (hk : 1 ≤ k) (hk8 : k ≤ 8) (hm : m ≤ l.length) (him : i ≤ m) : ∀ f ∈ fsR F, f.holds σ.ρ := by
  have h2 := inv.en
  have h3 := inv.em
  have h4 := inv.ek
  have h5 := inv.ei
  unfold fsR
  refine fCons (fGe ?_) (fCons (fGe ?_) (fCons (fGe ?_) (fCons (fGe ?_) (fCons (fGe ?_) (fCons (fGe ?_) (fCons (fGe ?_) (fCons (fGe ?_) (fCons (fLt ?_) (D.fa σ.ρ inv.ea)))))))))
  all_goals (simp only [SE.val, linV, h2, h3, h4, h5]; omega)
theorem rd_ok (D : FamD F a dn) (inv : RInv l k m i a dn σ) (hl : l.length ≤ 30) (hk : 1 ≤ k) (hk8 : k ≤ 8) (hm : m ≤ l.length) {mv : AV} (hmv : IsD σ.ρ σ.δ mv (.v (.int .i64 (m : Int)))) {hi nl : SE} (hhi : hi.val σ.ρ = ((min (m + k) l.length : Nat) : Int)) (hnl : nl.val σ.ρ = ((min (m + k) l.length : Nat) : Int))
    {nil : Bool} (h0 : nil = true → m = 0) (h1 : nil = false → 0 < m) : ∀ d ∈ rdDefs F nil mv hi nl, DefOk nsTabs σ.ρ σ.δ d := by
  have hp := inv.d6
  have hlen : ((l.drop m).take k).length ≤ 8 := by rw [List.length_take]; omega
  have hpr := piece_row (l := l) (m := m) (k := k) hm
  unfold rdDefs
  refine dCons ?_ (dCons ?_ (dCons ?_ (dCons ?_ (dCons ?_ (dCons ?_ (dCons ?_ (D.nm σ.ρ σ.δ inv.ea inv.d10)))))))
  · exact defOk_of (packGetD (m := (m : Int)) (k := (k : Int)) D.h1 D.h2 (by omega) (by omega) (by omega) (by omega)) (show _ < 1000000000 by decide)
      (.cons (.agg (.cons (.int _ _) (.cons (.psl (z := 1) rfl (.cons (.int _ _) (.cons (D.at64 _ _ inv.ea) (.cons (.int _ _) (.cons hmv (.cons (isD_sint inv.ek) (.cons (.int _ _) .nil))))))) (.cons (.str []) (.cons .nilslice .nil))))) .nil) (.c (.int _ _))
  · exact len_def (l := numD l) sliceT_22 inv.d0 (isD_sint inv.en)
  · exact piece_def (l := numD l) (A := m) (H := min (m + k) l.length) sliceT_22 inv.d0 (by rw [numD_len, Nat.mul_one]) hmv (isD_sint hhi) (by omega) (by omega) (by rw [hp, hpr])
  · exact defOk_of (joinD (l := (l.drop m).take k) (by omega)) (show _ < 1000000000 by decide) (.cons (.c .nilslice) (.cons (.c (isD_opq hp)) .nil)) (.c (isD_opq hp))
  · exact defOk_of (joinD (l := l) hl) (show _ < 1000000000 by decide) (.cons (.c .nilslice) (.cons (.c (isD_opq inv.d0)) .nil)) (.c (isD_opq inv.d0))
  · exact defOk_of (cloneD (l := (l.drop m).take k) hlen) (show _ < 1000000000 by decide) (.cons (.c (isD_opq hp)) .nil) (.c (isD_opq hp))
  · have hl6 : ((l.drop m).take k).length = min (m + k) l.length - m := by rw [List.length_take, List.length_drop]; omega
    cases nil with
    | true =>
      obtain rfl := h0 rfl
      exact cat0_def (m := ((l.drop 0).take k).length) (l' := numD ((l.drop 0).take k)) hp (by rw [numD_len, Nat.mul_one]) (by rw [hnl, hl6, Nat.sub_zero])
    | false =>
      have hm0 := h1 rfl
      have h5 := inv.d5 hm0
      have h9 := inv.d9
      have happ : l.take (m + k) = l.take m ++ (l.drop m).take k := List.take_add
      refine cat_def (n := (l.take m).length) (m := ((l.drop m).take k).length) (N := min (m + k) l.length) (l := numD (l.take m)) (ls := []) (l' := numD ((l.drop m).take k)) h5 hp (by rw [numD_len, Nat.mul_one]) .nil ?_ ?_ hnl
      · rw [h9]
        unfold rowI numD
        rw [List.length_take, List.nil_append, happ, List.map_append]
      · rw [List.nil_append, List.length_append, numD_len, numD_len, hl6, List.length_take]; omega
theorem ext_row {l : List Int} {ρ : Nat → Int} {δ : Nat → D} {q : Nat} (h : δ q = rowI l) : dtV ρ δ (.ext q 0 []) = rowI l := by
  show (match δ q with | .sl n l => D.sl (n + 0) (l ++ dOfL ρ δ []) | d => d) = rowI l
  rw [h]
  show D.sl (l.length + 0) (numD l ++ []) = .sl l.length (numD l)
  rw [Nat.add_zero, List.append_nil]
/-- The whole loop. -/
theorem rounds (D : FamD F a dn) (hl : l.length ≤ 30) (hk : 1 ≤ k) (hk8 : k ≤ 8) {r : DV}
    (hz0 : l = [] → ∀ (ρ : Nat → Int) (δ : Nat → Ev.D), ρ 2 = (l.length : Int) → δ 0 = rowI l → GoD nsTabs nrFn nrAft F.Z0 ρ δ r)
    (hz1 : ∀ (ρ : Nat → Int) (δ : Nat → Ev.D), ρ 2 = (l.length : Int) → δ 0 = rowI l → δ 5 = rowI l → GoD nsTabs nrFn nrAft F.Z1 ρ δ r)
    {ρ : Nat → Int} {δ : Nat → Ev.D} (inv : RInv l k 0 0 a dn ⟨F.R0, ρ, δ⟩) : GoS nsTabs nrFn (.block 4 (.loop nrLb)) nrAft F.R0 ρ δ r := by
  refine goS_loop (A := fun σ => ∃ m i, RInv l k m i a dn σ ∧ ((m = 0 ∧ σ.t = F.R0) ∨ (0 < m ∧ m < l.length ∧ σ.t = F.R1)) ∧ i ≤ m) (μ := fun σ => (30 - σ.ρ 3).toNat) ?_ ⟨F.R0, ρ, δ⟩ ⟨0, 0, inv, .inl ⟨rfl, rfl⟩, Nat.le_refl _⟩
  rintro ⟨t, ρ, δ⟩ ⟨m, i, inv, ht, him⟩
  have h2 : ρ 2 = (l.length : Int) := inv.en
  have h3 : ρ 3 = (m : Int) := inv.em
  have h4 : ρ 4 = (k : Int) := inv.ek
  have h5 : ρ 5 = (i : Int) := inv.ei
  have h8 : ρ 8 = a := inv.ea
  have e0 : δ 0 = rowI l := inv.d0
  have e6 : δ 6 = rowI ((l.drop m).take k) := inv.d6
  have e9 : δ 9 = rowI (l.take (m + k)) := inv.d9
  have e10 : δ 10 = dn := inv.d10
  rcases ht with ⟨rfl, ht⟩ | ⟨hm0, hmn, ht⟩
  · have ht : t = F.R0 := ht
    subst ht
    have hf := fsR_ok D inv hl hk hk8 (Nat.zero_le _) him
    have hmv : IsD ρ δ (.int .i64 0) (.v (.int .i64 ((0 : Nat) : Int))) := .int _ _
    rw [List.drop_zero] at e6
    by_cases hn : l.length = 0
    · have hrun := D.ok.a0
      unfold runR at hrun
      have hd := rd_ok D inv hl hk hk8 (Nat.zero_le _) (mv := .int .i64 0) (hi := .var 2) (nl := .var 2) hmv (by show ρ 2 = _; rw [h2]; omega) (by show ρ 2 = _; rw [h2]; omega) (nil := true) (fun _ => rfl) (fun h => by cases h)
      have hc : ∀ f ∈ c0 ++ fsR F, f.holds ρ := by
        unfold c0
        exact fCons (fEq (by show ρ 2 = 0; omega)) hf
      refine .inr (.inl ⟨⟨F.Z0, _, _⟩, leads_go (t := F.R0) ns_mix ns_names hrun hc hd, hz0 (List.eq_nil_of_length_eq_zero hn) _ _ ?_ ?_⟩)
      · exact ρ_none (vs := []) (ρ := ρ) (k := 2) (by decide) h2
      · exact e0
    · by_cases hlt : l.length < k
      · have hrun := D.ok.a1
        unfold runR at hrun
        have hd := rd_ok D inv hl hk hk8 (Nat.zero_le _) (mv := .int .i64 0) (hi := .var 2) (nl := .var 2) hmv (by show ρ 2 = _; rw [h2]; omega) (by show ρ 2 = _; rw [h2]; omega) (nil := true) (fun _ => rfl) (fun h => by cases h)
        have hc : ∀ f ∈ c1 ++ fsR F, f.holds ρ := by
          unfold c1
          exact fCons (fLt (by show 0 < ρ 2; omega)) (fCons (fLt (by show ρ 2 < ρ 4; omega)) hf)
        refine .inr (.inl ⟨⟨F.Z1, _, _⟩, leads_go (t := F.R0) ns_mix ns_names hrun hc hd, hz1 _ _ ?_ ?_ ?_⟩)
        · exact ρ_none (vs := []) (ρ := ρ) (k := 2) (by decide) h2
        · exact e0
        · refine (ext_row (l := l) (ρ := ρ) (δ := δ) (q := 6) ?_)
          rw [e6, List.take_of_length_le (by omega)]
      · by_cases heq : l.length = k
        · have hrun := D.ok.a2
          unfold runR at hrun
          have hd := rd_ok D inv hl hk hk8 (Nat.zero_le _) (mv := .int .i64 0) (hi := .var 4) (nl := .var 2) hmv (by show ρ 4 = _; rw [h4]; omega) (by show ρ 2 = _; rw [h2]; omega) (nil := true) (fun _ => rfl) (fun h => by cases h)
          have hc : ∀ f ∈ c2 ++ fsR F, f.holds ρ := by
            unfold c2
            exact fCons (fLt (by show 0 < ρ 2; omega)) (fCons (fEq (by show ρ 2 = ρ 4; omega)) hf)
          refine .inr (.inl ⟨⟨F.Z1, _, _⟩, leads_go (t := F.R0) ns_mix ns_names hrun hc hd, hz1 _ _ ?_ ?_ ?_⟩)
          · exact ρ_none (vs := []) (ρ := ρ) (k := 2) (by decide) h2
          · exact e0
          · refine (ext_row (l := l) (ρ := ρ) (δ := δ) (q := 6) ?_)
            rw [e6, List.take_of_length_le (by omega)]
        · have hrun := D.ok.a3 (rowI ((l.drop (0 + k)).take k)) (rowI (l.take (0 + k + k)))
          unfold runR at hrun
          have hd := rd_ok D inv hl hk hk8 (Nat.zero_le _) (mv := .int .i64 0) (hi := .var 4) (nl := .var 4) hmv (by show ρ 4 = _; rw [h4]; omega) (by show ρ 4 = _; rw [h4]; omega) (nil := true) (fun _ => rfl) (fun h => by cases h)
          have hc : ∀ f ∈ c3 ++ fsR F, f.holds ρ := by
            unfold c3
            exact fCons (fLt (by show ρ 4 < ρ 2; omega)) hf
          refine .inl ⟨⟨F.R1, _, _⟩, ⟨0 + k, i + 1, ⟨?_, ?_, ?_, ?_, ?_, ?_, fun _ => ?_, ?_, ?_, ?_⟩, .inr ⟨by omega, by omega, rfl⟩, by omega⟩, ?_, leads_go (t := F.R0) ns_mix ns_names hrun hc hd⟩
          · exact ρ_none (vs := vA) (ρ := ρ) (k := 2) (by decide) h2
          · refine ρ_none (vs := vA) (ρ := ρ) (k := 3) (by decide) ?_
            show ρ 4 = _
            rw [h4]; omega
          · exact ρ_none (vs := vA) (ρ := ρ) (k := 4) (by decide) h4
          · refine ρ_none (vs := vA) (ρ := ρ) (k := 5) (by decide) ?_
            show 1 + (1 * ρ 5 + 0) = _
            rw [h5]; omega
          · exact ρ_none (vs := vA) (ρ := ρ) (k := 8) (by decide) h8
          · exact e0
          · refine (ext_row (l := l.take (0 + k)) (ρ := ρ) (δ := δ) (q := 6) ?_)
            rw [e6, Nat.zero_add]
          · rfl
          · rfl
          · exact e10
          · show (30 - How.ρ _ ρ 3).toNat < (30 - ρ 3).toNat
            have : How.ρ ⟨[(3, .var 4), (5, .lin 1 [(5, 1)])], none, [(5, .ext 6 0 []), (6, .is (rowI ((l.drop (0 + k)).take k))), (9, .is (rowI (l.take (0 + k + k))))]⟩ ρ 3 = ρ 4 := How.ρ_at (by decide)
            rw [this, h4, h3]
            omega
  · have ht : t = F.R1 := ht
    subst ht
    have hf := fsR_ok D inv hl hk hk8 (by omega) him
    have hmv : IsD ρ δ v3 (.v (.int .i64 (m : Int))) := isD_sint h3
    have hc3 : (⟨true, .lit 0, .var 3, true⟩ : Fact).holds ρ := fLt (by show 0 < ρ 3; omega)
    have hc32 : (⟨true, .var 3, .var 2, true⟩ : Fact).holds ρ := fLt (by show ρ 3 < ρ 2; omega)
    have hs34 : s34.val ρ = ((m + k : Nat) : Int) := by
      show 0 + (1 * ρ 3 + (1 * ρ 4 + 0)) = _
      rw [h3, h4]; omega
    have hdf : (SE.lin 0 [(2, 1), (3, -1)]).val ρ = (l.length : Int) - (m : Int) := by
      show 0 + (1 * ρ 2 + (-1 * ρ 3 + 0)) = _
      rw [h2, h3]; omega
    by_cases hlt : l.length - m < k
    · have hrun := D.ok.b1
      unfold runR at hrun
      have hd := rd_ok D inv hl hk hk8 (by omega) (hi := .var 2) (nl := .var 2) hmv (by show ρ 2 = _; rw [h2]; omega) (by show ρ 2 = _; rw [h2]; omega) (nil := false) (fun h => by cases h) (fun _ => hm0)
      have hc : ∀ f ∈ c4 ++ fsR F, f.holds ρ := by
        unfold c4
        exact fCons (fLt (by rw [hdf]; show _ < ρ 4; omega)) (fCons hc3 (fCons hc32 hf))
      refine .inr (.inl ⟨⟨F.Z1, _, _⟩, leads_go (t := F.R1) ns_mix ns_names hrun hc hd, hz1 _ _ ?_ ?_ ?_⟩)
      · exact ρ_none (vs := []) (ρ := ρ) (k := 2) (by decide) h2
      · exact e0
      · refine (ext_row (l := l) (ρ := ρ) (δ := δ) (q := 9) ?_)
        rw [e9, List.take_of_length_le (by omega)]
    · by_cases heq : l.length - m = k
      · have hrun := D.ok.b2
        unfold runR at hrun
        have hd := rd_ok D inv hl hk hk8 (by omega) (hi := s34) (nl := .var 2) hmv (by rw [hs34]; omega) (by show ρ 2 = _; rw [h2]; omega) (nil := false) (fun h => by cases h) (fun _ => hm0)
        have hc : ∀ f ∈ c5 ++ fsR F, f.holds ρ := by
          unfold c5
          exact fCons (fEq (by rw [hdf]; show _ = ρ 4; omega)) (fCons hc3 (fCons hc32 hf))
        refine .inr (.inl ⟨⟨F.Z1, _, _⟩, leads_go (t := F.R1) ns_mix ns_names hrun hc hd, hz1 _ _ ?_ ?_ ?_⟩)
        · exact ρ_none (vs := []) (ρ := ρ) (k := 2) (by decide) h2
        · exact e0
        · refine (ext_row (l := l) (ρ := ρ) (δ := δ) (q := 9) ?_)
          rw [e9, List.take_of_length_le (by omega)]
      · have hrun := D.ok.b3 (rowI ((l.drop (m + k)).take k)) (rowI (l.take (m + k + k)))
        unfold runR at hrun
        have hd := rd_ok D inv hl hk hk8 (by omega) (hi := s34) (nl := s34) hmv (by rw [hs34]; omega) (by rw [hs34]; omega) (nil := false) (fun h => by cases h) (fun _ => hm0)
        have hc : ∀ f ∈ c6 ++ fsR F, f.holds ρ := by
          unfold c6
          exact fCons (fLt (by rw [hdf]; show ρ 4 < _; omega)) (fCons hc3 (fCons hc32 hf))
        refine .inl ⟨⟨F.R1, _, _⟩, ⟨m + k, i + 1, ⟨?_, ?_, ?_, ?_, ?_, ?_, fun _ => ?_, ?_, ?_, ?_⟩, .inr ⟨by omega, by omega, rfl⟩, by omega⟩, ?_, leads_go (t := F.R1) ns_mix ns_names hrun hc hd⟩
        · exact ρ_none (vs := vB) (ρ := ρ) (k := 2) (by decide) h2
        · exact ρ_none (vs := vB) (ρ := ρ) (k := 3) (by decide) hs34
        · exact ρ_none (vs := vB) (ρ := ρ) (k := 4) (by decide) h4
        · refine ρ_none (vs := vB) (ρ := ρ) (k := 5) (by decide) ?_
          show 1 + (1 * ρ 5 + 0) = _
          rw [h5]; omega
        · exact ρ_none (vs := vB) (ρ := ρ) (k := 8) (by decide) h8
        · exact e0
        · exact ext_row (l := l.take (m + k)) (ρ := ρ) (δ := δ) (q := 9) e9
        · rfl
        · rfl
        · exact e10
        · show (30 - How.ρ _ ρ 3).toNat < (30 - ρ 3).toNat
          have : How.ρ ⟨[(3, s34), (5, .lin 1 [(5, 1)])], none, [(5, .ext 9 0 []), (6, .is (rowI ((l.drop (m + k)).take k))), (9, .is (rowI (l.take (m + k + k))))]⟩ ρ 3 = s34.val ρ := How.ρ_at (by decide)
          rw [this, hs34, h3]
          omega
end
end Ev
end Go.Proofs.YtnjpdipombnigaaGreatDoor
