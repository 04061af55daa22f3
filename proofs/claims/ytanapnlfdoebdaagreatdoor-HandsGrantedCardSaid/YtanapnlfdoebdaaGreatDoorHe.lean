/-
  An array of three bytes, as a row's argument gives it.
  HandsGranted: a digit that hangs on what came in, as text.
  HandsGranted: the tables (printed by a program).
  HandsGranted: the contracts, and how a leaf is used.
  HandsGranted: the worlds (printed by a program).
-/
import Derived.OpenShut
import Derived.ChangeShapes
import Derived.WideShapes
import Derived.Test.YtanapnlfdoebdaaGreatDoorHb
import Derived.KernelRfl
import Derived.Test.YtanapnlfdoebdaaGreatDoorHa
import Derived.Test.YtanapnlfdoebdaaGreatDoorZd
namespace Go.Proofs.YtanapnlfdoebdaaGreatDoor
namespace Ev
open Go.ChangeShapes Go.WideShapes
theorem three_of {l : List Value} {f : Nat → Int} (hl : l.length = 3) (h : ∀ i, i < 3 → (l.drop (i * 1)).take 1 = [.int .u8 (f i)]) : l = [.int .u8 (f 0), .int .u8 (f 1), .int .u8 (f 2)] := by
  match l, hl with
  | [a, b, c], _ =>
    have h0 := h 0 (by omega)
    have h1 := h 1 (by omega)
    have h2 := h 2 (by omega)
    simp at h0 h1 h2
    rw [h0, h1, h2]
theorem bytes3_in {H : Type} {enc : TypeId × Value → H} {P : Program} {w : World} {t e : TypeId} {r : Go.Reach} {b0 : Nat} {v : Value} {d : DataW H} {ps : List MemPlace} (ht : P.underlying t = some (.array 3 e)) (he : P.underlying e = some (.int .u8)) (hc : P.cellsOf e = 1) (hct : P.cellsOf t = 3)
    (hval : Value.okWide P w r b0 t v) (h : DataW.Trod enc P w 0 (fun _ => true) true t v d ps) : ∃ q0 q1 q2 : Int, v = .agg #[.int .u8 q0, .int .u8 q1, .int .u8 q2] ∧ (0 ≤ q0 ∧ q0 ≤ 255) ∧ (0 ≤ q1 ∧ q1 ≤ 255) ∧ (0 ≤ q2 ∧ q2 ≤ 255) := by
  simp only [Value.okWide, ht] at hval
  obtain ⟨cs, rfl, h2, _⟩ := hval
  obtain ⟨fuel, hf⟩ := h
  have hf : DataW.trod enc P w 0 (fun _ => true) true fuel t cs.toList = some (d, ps) := by simpa [Value.cells] using hf
  obtain ⟨xs, m, _, _, _, hl, hg⟩ := Go.DataW.trod_array ht hf
  have key : ∀ i, i < 3 → ∃ n : Int, (cs.toList.drop (i * 1)).take 1 = [.int .u8 n] ∧ 0 ≤ n ∧ n ≤ 255 := by
    intro i hi
    have h3 := hg i hi
    rw [hc] at h3
    rw [List.getElem?_eq_getElem (by omega)] at h3
    obtain ⟨n, h4, _, hw⟩ := DataW.trod_int he h3
    refine ⟨n, h4, ?_⟩
    simp [Lit.wf, IntKind.min, IntKind.max, IntKind.signed, IntKind.bits] at hw
    omega
  obtain ⟨n0, a0, b0⟩ := key 0 (by omega)
  obtain ⟨n1, a1, b1⟩ := key 1 (by omega)
  obtain ⟨n2, a2, b2⟩ := key 2 (by omega)
  have hl3 : cs.toList.length = 3 := by rw [Array.length_toList, h2, hct]
  have h5 := three_of (l := cs.toList) (f := fun i => if i = 0 then n0 else if i = 1 then n1 else n2) hl3 (by
    intro i hi
    rcases (show i = 0 ∨ i = 1 ∨ i = 2 by omega) with rfl | rfl | rfl
    · exact a0
    · exact a1
    · exact a2)
  refine ⟨n0, n1, n2, ?_, b0, b1, b2⟩
  have h6 : cs = #[.int .u8 n0, .int .u8 n1, .int .u8 n2] := by
    apply Array.toList_inj.1
    exact h5
  rw [h6]
end Ev
end Go.Proofs.YtanapnlfdoebdaaGreatDoor
namespace Go.Proofs.YtanapnlfdoebdaaGreatDoor
namespace Ev
open Go.RowKit
noncomputable def smM (n : Nat) : Memo := ⟨64, [.int .i64 (Int.ofNat n)], [], [], 64, .str [UInt8.ofNat (Nat.add 48 n)], []⟩
noncomputable def isQ (q : Bool) (x : Option Bool) : Bool := match x with
  | some b => b == q
  | none => false
noncomputable def smallA (a : List AV) (s : St) : R := match a with
  | [.sint .i64 e] => bc (isQ false (s.o.lt e (.lit 0))) (bc (isQ true (s.o.lt e (.lit 10))) (oc2 (memA [] (smM 0) [.int .i64 0] s) fun _ s' => some (.pstr [.byt (s.o.bin .add .i64 e (.lit 48))], s')))
  | a => evN.call 323 a s
noncomputable def smOne (n : Nat) : Bool := likeL 64 [] [.int .i64 (Int.ofNat n)] [.int .i64 (Int.ofNat n)] && memChk (smM n) (evN.call 323 (smM n).args (tmplSt [] (smM n).c0 (smM n).objs (smM n).fs))
theorem sm_all : (List.range 10).all smOne = true := by kernel_rfl
theorem sm_at {n : Nat} (h : n < 10) : likeL 64 [] [.int .i64 (Int.ofNat n)] [.int .i64 (Int.ofNat n)] = true ∧ memChk (smM n) (evN.call 323 (smM n).args (tmplSt [] (smM n).c0 (smM n).objs (smM n).fs)) = true := by
  have := List.all_eq_true.1 sm_all n (List.mem_range.2 h)
  unfold smOne at this
  rw [Bool.and_eq_true] at this
  exact this
theorem isQ_some {q : Bool} {x : Option Bool} (h : isQ q x = true) : x = some q := by
  unfold isQ at h
  split at h
  · rename_i b
    rw [beq_iff_eq] at h
    rw [h]
  · cases h
theorem bcT {β : Type} (k : Option β) : bc true k = k := rfl
theorem ocS {α β : Type} (a : α) (k : α → Option β) : oc (some a) k = k a := rfl
theorem memA_str {n : Nat} {s s' : St} {v : AV} (hl : likeL 64 [] [.int .i64 (Int.ofNat n)] [.int .i64 (Int.ofNat n)] = true) (h : memA [] (smM 0) [.int .i64 0] s = some (v, s')) :
    memA [] (smM n) [.int .i64 (Int.ofNat n)] s = some (.str [UInt8.ofNat (Nat.add 48 n)], s') := by
  obtain ⟨hc, h⟩ := bc_some h
  obtain ⟨_, h⟩ := bc_some h
  obtain ⟨ht, h⟩ := bc_some h
  obtain ⟨hob, h⟩ := bc_some h
  obtain ⟨hfs, h⟩ := bc_some h
  rw [force_eq] at h
  obtain ⟨v', hv, h⟩ := oc_some h
  obtain ⟨ps, hps, h⟩ := oc_some h
  rw [force_eq] at h
  have h := (Prod.mk.inj (Option.some.inj h)).2
  have e : memA [] (smM n) [.int .i64 (Int.ofNat n)] s = bc (Nat.ble (smM 0).c0 s.c) (bc (likeL 64 [] [.int .i64 (Int.ofNat n)] [.int .i64 (Int.ofNat n)]) (bc (tabsIn s []) (bc (objsAt (smM 0).c0 s.h (smM 0).objs) (bc (instFs s.o [] (smM 0).fs)
      (force (Nat.sub s.c (smM 0).c0) fun d => oc (shV (smM 0).c0 d (nat_lit 40) (.str [UInt8.ofNat (Nat.add 48 n)])) fun v => oc (shPuts (smM 0).c0 d (smM 0).puts) fun ps =>
        force (Nat.add (smM 0).c1 d) fun c' => some (v, ⟨c', putAll s.h ps, Nat.lor (Nat.lor (seeAll s []).l (idsO (smM 0).objs)) (Nat.lor (oldIds (smM 0).c0 (smM 0).puts) (marksIn s.c c')), Nat.lor s.w (Nat.lor (oldIds (smM 0).c0 (smM 0).puts) (marksIn s.c c')), s.o⟩)))))) := rfl
  rw [e, hc, hl, ht, hob, hfs, bcT, bcT, bcT, bcT, bcT, force_eq]
  have hs : ∀ d l, shV (smM 0).c0 d (nat_lit 40) (.str l) = some (.str l) := fun d l => rfl
  rw [hs, ocS, hps, ocS, force_eq, ← h]
noncomputable def ctrT : Ctr := ctrU 323 smallA fun _ => none
theorem ctrT_ok : CtrOk Tryz.prog ctrT := ctrU_ok noCtr_ok fun {args s v s'} h => by
  unfold smallA at h
  split at h
  · rename_i e
    obtain ⟨h0, h⟩ := bc_some h
    obtain ⟨h1, h⟩ := bc_some h
    obtain ⟨v0, s1, hm, h⟩ := oc2_some h
    cases h
    have h0 := isQ_some h0
    have h1 := isQ_some h1
    have hst := (mem_ok (tabs := []) (ctr := fun _ => none) (n := 100000) noCtr_ok hc_mix hc_names (sm_at (n := 0) (by decide)).2 hm).1
    refine ⟨hst, fun {G B E w args'} hG hs ha => ?_⟩
    have k0 := hs.orc.lt _ _ _ h0
    have k1 := hs.orc.lt _ _ _ h1
    have k0 : ¬ e.val E.ρ < 0 := of_decide_eq_false k0.symm
    have k1 : e.val E.ρ < 10 := of_decide_eq_true k1.symm
    obtain ⟨n, hn⟩ : ∃ n : Nat, e.val E.ρ = Int.ofNat n := ⟨(e.val E.ρ).toNat, by rw [Int.ofNat_eq_natCast]; omega⟩
    have hn10 : n < 10 := by rw [hn, Int.ofNat_eq_natCast] at k1; omega
    obtain ⟨l1, l2⟩ := sm_at hn10
    have hm2 := memA_str (n := n) l1 hm
    have ha2 : RelL E [.int .i64 (Int.ofNat n)] args'.toList := by
      revert ha
      generalize args'.toList = l
      intro ha
      cases ha with
      | cons hx ht =>
        cases ht
        cases hx
        rw [hn]
        exact .cons (.int _ _) .nil
    obtain ⟨r1, r2⟩ := (mem_ok (tabs := []) (ctr := fun _ => none) (n := 100000) noCtr_ok hc_mix hc_names l2 hm2).2 hG hs ha2
    refine ⟨r1, r2.mono fun e' w' he => ?_⟩
    obtain ⟨E1, v1, rfl, hv, hs1, hx⟩ := he
    refine ⟨E1, v1, rfl, ?_, hs1, hx⟩
    cases hv
    have hb : psVal E1.ρ [.byt (s.o.bin .add .i64 e (.lit 48))] = [UInt8.ofNat (Nat.add 48 n)] := by
      show [UInt8.ofNat ((s.o.bin .add .i64 e (.lit 48)).val E1.ρ).toNat] ++ [] = _
      rw [hx.le.ρ, hs.orc.bin]
      show [UInt8.ofNat (IntKind.i64.wrap (e.val E.ρ + 48)).toNat] ++ [] = _
      rw [hn]
      have : IntKind.i64.wrap (Int.ofNat n + 48) = ((48 + n : Nat) : Int) := by
        rw [Int.ofNat_eq_natCast]
        simp [IntKind.wrap, IntKind.bits, IntKind.signed]
        omega
      rw [this]
      rfl
    rw [← hb]
    exact .pstr _
  · exact evN_ok.call h
end Ev
end Go.Proofs.YtanapnlfdoebdaaGreatDoor
namespace Go.Proofs.YtanapnlfdoebdaaGreatDoor
namespace Ev
open Go.RowKit
noncomputable def hgT0 : Nat × List AV := (0, [.str [112, 114, 105, 109, 97, 114, 121], .str [115, 101, 99, 111, 110, 100, 97, 114, 121], .str [99, 108, 105, 112, 98, 111, 97, 114, 100], .str [115, 116, 114, 105, 110, 103], .str [105, 110, 116, 101, 103, 101, 114], .str [97, 116, 111, 109, 115], .str [105, 110, 99, 114], .str [116, 105, 116, 108, 101], .str [116, 114, 97, 110, 115, 102, 101, 114], .str [99, 108, 111, 115, 101]])
noncomputable def hgT3 : Nat × List AV := (3, [.int .u64 (1), .int .u64 (10), .int .u64 (100), .int .u64 (1000), .int .u64 (10000), .int .u64 (100000), .int .u64 (1000000), .int .u64 (10000000), .int .u64 (100000000), .int .u64 (1000000000), .int .u64 (10000000000), .int .u64 (100000000000), .int .u64 (1000000000000), .int .u64 (10000000000000), .int .u64 (100000000000000), .int .u64 (1000000000000000), .int .u64 (10000000000000000), .int .u64 (100000000000000000), .int .u64 (1000000000000000000), .int .u64 (10000000000000000000)])
noncomputable def hgTabs : List (Nat × List AV) := [hgT0, hcT1, hcT2, hgT3, hcT5, hcT7]
end Ev
end Go.Proofs.YtanapnlfdoebdaaGreatDoor
namespace Go.Proofs.YtanapnlfdoebdaaGreatDoor
namespace Ev
open Go.RowKit
noncomputable def evG (pm : List MemoR) (tm dm km : List Memo) : Rec := ev Tryz.prog (ctrU 9 (fun a s => memAny hgTabs a s km) (ctrU 4 (knownTrue hcTabs) (ctrU 5 (fun a s => memAnyR hgTabs a s pm) (ctrU 8 (fun a s => memAny hgTabs a s tm) (ctrU 7 (fun a s => memAny hgTabs a s dm) fun _ => none))))) 100000
noncomputable def evT : Rec := ev Tryz.prog ctrT 100000
noncomputable def pChk (M : MemoR) : Bool := memChkR M (evN.call 5 M.args (tmplSt hgTabs M.c0 M.objs M.fs))
noncomputable def tChk (M : Memo) : Bool := memChk M (evT.call 8 M.args (tmplSt hgTabs M.c0 M.objs M.fs))
noncomputable def dChk (M : Memo) : Bool := memChk M (evN.call 7 M.args (tmplSt hgTabs M.c0 M.objs M.fs))
noncomputable def kChk (M : Memo) : Bool := memChk M (evN.call 9 M.args (tmplSt hgTabs M.c0 M.objs M.fs))
theorem evG_ok {pm : List MemoR} {tm dm km : List Memo} (h1 : ∀ M ∈ pm, pChk M = true) (h2 : ∀ M ∈ tm, tChk M = true) (h3 : ∀ M ∈ dm, dChk M = true) (h4 : ∀ M ∈ km, kChk M = true) : RecOk Tryz.prog 100000 (evG pm tm dm km) :=
  ev_ok hc_mix (ctrU_ok (ctrU_ok (ctrU_ok (ctrU_ok (ctrU_ok noCtr_ok
    fun {args s v s'} h => mems_ok (tabs := hgTabs) (ctr := fun _ => none) (n := 100000) (l := dm) noCtr_ok hc_mix hc_names h3 h)
    fun {args s v s'} h => mems_ok (tabs := hgTabs) (ctr := ctrT) (n := 100000) (l := tm) ctrT_ok hc_mix hc_names h2 h)
    fun {args s v s'} h => memsR_ok (tabs := hgTabs) (ctr := fun _ => none) (n := 100000) (l := pm) noCtr_ok hc_mix hc_names h1 h)
    fun {args s v s'} h => knownC_ok awake_enter (fun w ht => awake_calls ht) h)
    fun {args s v s'} h => mems_ok (tabs := hgTabs) (ctr := fun _ => none) (n := 100000) (l := km) noCtr_ok hc_mix hc_names h4 h) (names_of hc_names) 100000

/-- What came in, as facts. -/
def Holds (ρ : Nat → Int) (fs : List Fact) : Prop := ∀ f ∈ fs, f.holds ρ
theorem holds_lt {ρ : Nat → Int} {fs : List Fact} {a b : SE} {G : Prop} (h : Holds ρ fs) (h1 : Holds ρ (⟨true, a, b, true⟩ :: fs) → G) (h2 : Holds ρ (⟨true, a, b, false⟩ :: fs) → G) : G := by
  by_cases hc : a.val ρ < b.val ρ
  · refine h1 fun f hf => ?_
    rcases List.mem_cons.1 hf with rfl | hf
    · show true = decide (a.val ρ < b.val ρ)
      exact (decide_eq_true hc).symm
    · exact h f hf
  · refine h2 fun f hf => ?_
    rcases List.mem_cons.1 hf with rfl | hf
    · show false = decide (a.val ρ < b.val ρ)
      exact (decide_eq_false hc).symm
    · exact h f hf
theorem holds_eq {ρ : Nat → Int} {fs : List Fact} {a b : SE} {G : Prop} (h : Holds ρ fs) (h1 : Holds ρ (⟨false, a, b, true⟩ :: fs) → G) (h2 : Holds ρ (⟨false, a, b, false⟩ :: fs) → G) : G := by
  by_cases hc : a.val ρ = b.val ρ
  · refine h1 fun f hf => ?_
    rcases List.mem_cons.1 hf with rfl | hf
    · show true = decide (a.val ρ = b.val ρ)
      exact (decide_eq_true hc).symm
    · exact h f hf
  · refine h2 fun f hf => ?_
    rcases List.mem_cons.1 hf with rfl | hf
    · show false = decide (a.val ρ = b.val ρ)
      exact (decide_eq_false hc).symm
    · exact h f hf
noncomputable def hgQ (r : Int) : AV := .agg [.sint .u8 (.lin 0 [(0, 1), (1, 8)]), .sint .u8 (.lin 0 [(2, 1), (3, 6)]), .sint .u8 (.lin r [(4, 6)])]
/-- A row of k numbers, under facts. -/
noncomputable def hgC (pm : List MemoR) (tm dm km : List Memo) (r : Int) (k : Nat) (fs : List Fact) : Bool := okT ((evG pm tm dm km).call 3 [hgQ r, .aslice 64 0 k] (startR hgTabs (varsFrom .i64 5 k) (orcI fs)))
/-- No number. -/
noncomputable def hgN (pm : List MemoR) (tm dm km : List Memo) (r : Int) (v : AV) (fs : List Fact) : Bool := okT ((evG pm tm dm km).call 3 [hgQ r, v] (startC 65 hgTabs (orcI fs)))
structure HgK where
  k : Nat
  t : Tree
  dm : List Memo
  km : List Memo
noncomputable def appF : List Fact → List Fact → List Fact
  | [], m => m
  | x :: l, m => x :: appF l m
theorem mem_appF {f : Fact} : ∀ {l m : List Fact}, f ∈ appF l m → f ∈ l ∨ f ∈ m
  | [], _, h => .inr h
  | x :: l, m, h => by
    rcases List.mem_cons.1 (show f ∈ x :: appF l m from h) with rfl | h
    · exact .inl (List.mem_cons_self ..)
    · rcases mem_appF h with h | h
      · exact .inl (List.mem_cons_of_mem _ h)
      · exact .inr h
theorem Holds.app {ρ : Nat → Int} {l m : List Fact} (h1 : Holds ρ l) (h2 : Holds ρ m) : Holds ρ (appF l m) := fun f hf => (mem_appF hf).elim (h1 f) (h2 f)
noncomputable def hgRow (pm : List MemoR) (tm : List Memo) (r : Int) (fs : List Fact) : List HgK → Bool
  | [] => true
  | x :: l => x.t.all (hgC pm tm x.dm x.km r x.k) (appF fs (bnds 5 x.k)) && hgRow pm tm r fs l
theorem hgRow_mem {pm : List MemoR} {tm : List Memo} {r : Int} {fs : List Fact} : ∀ {L : List HgK}, hgRow pm tm r fs L = true → ∀ x ∈ L, x.t.all (hgC pm tm x.dm x.km r x.k) (appF fs (bnds 5 x.k)) = true
  | [], _, _, h => by cases h
  | y :: l, h, x, hx => by
    simp only [hgRow, Bool.and_eq_true] at h
    rcases List.mem_cons.1 hx with rfl | hx
    · exact h.1
    · exact hgRow_mem h.2 x hx
/-- The remainders and quotients of the three bytes; the numbers from 5 on. -/
def rhoG (q0 q1 q2 : Int) (xs : List Int) : Nat → Int := fun j => if j = 0 then q0 % 8 else if j = 1 then q0 / 8 else if j = 2 then q1 % 6 else if j = 3 then q1 / 6 else if j = 4 then q2 / 6 else xs.getD (j - 5) 0
theorem rhoG_at {q0 q1 q2 : Int} {xs : List Int} {i : Nat} {x : Int} (h : xs[i]? = some x) : rhoG q0 q1 q2 xs (5 + i) = x := by
  unfold rhoG
  rw [if_neg (by omega), if_neg (by omega), if_neg (by omega), if_neg (by omega), if_neg (by omega), Nat.add_sub_cancel_left, List.getD_eq_getElem?_getD, h]
  rfl
theorem hgQ_rel {E : Env} {q0 q1 q2 r : Int} (h0 : E.ρ 0 = q0 % 8) (h1 : E.ρ 1 = q0 / 8) (h2 : E.ρ 2 = q1 % 6) (h3 : E.ρ 3 = q1 / 6) (h4 : E.ρ 4 = q2 / 6) (hr : q2 % 6 = r) : Rel E (hgQ r) (.agg #[.int .u8 q0, .int .u8 q1, .int .u8 q2]) := by
  have e0 : (SE.lin 0 [(0, 1), (1, 8)]).val E.ρ = q0 := by
    show 0 + (1 * E.ρ 0 + (8 * E.ρ 1 + 0)) = q0
    rw [h0, h1]; omega
  have e1 : (SE.lin 0 [(2, 1), (3, 6)]).val E.ρ = q1 := by
    show 0 + (1 * E.ρ 2 + (6 * E.ρ 3 + 0)) = q1
    rw [h2, h3]; omega
  have e2 : (SE.lin r [(4, 6)]).val E.ρ = q2 := by
    show r + (6 * E.ρ 4 + 0) = q2
    rw [h4]; omega
  refine .agg (.cons ?_ (.cons ?_ (.cons ?_ .nil)))
  · have := Rel.sint (E := E) .u8 (.lin 0 [(0, 1), (1, 8)]); rwa [e0] at this
  · have := Rel.sint (E := E) .u8 (.lin 0 [(2, 1), (3, 6)]); rwa [e1] at this
  · have := Rel.sint (E := E) .u8 (.lin r [(4, 6)]); rwa [e2] at this
/-- What the statement asks. -/
def Granted (w : World) (q0 q1 q2 : Int) (v : Value) : Prop := Calls Tryz.prog 3 #[.agg #[.int .u8 q0, .int .u8 q1, .int .u8 q2], v] w fun e w' => e = .returned (.bool true) ∧ Below w.heap.size w w'
theorem hg_row {w : World} (ht : TabsIn w hgTabs) {pm : List MemoR} {tm dm km : List Memo} (hr : RecOk Tryz.prog 100000 (evG pm tm dm km)) {k : Nat} {t : Tree} {fs : List Fact} {q0 q1 q2 : Int} {v : Value} {xs : List Int} (hv : IntsIn w v xs) (hx : ∀ x ∈ xs, InR x) (hk : xs.length = k) (h0 : xs ≠ [])
    {r : Int} (hq : q2 % 6 = r) (hrun : t.all (hgC pm tm dm km r k) (appF fs (bnds 5 k)) = true) (hf : Holds (rhoG q0 q1 q2 xs) fs) : Granted w q0 q1 q2 v := by
  subst hk
  obtain ⟨b, C, cp, rfl, hcp, hrow⟩ := intsIn_row hv h0
  obtain ⟨fs', h1, h2⟩ := Tree.all_ok (rhoG q0 q1 q2 xs) hrun (Holds.app hf (bnds_ok fun i h3 h4 => by
    have h5 : i - 5 < xs.length := by omega
    have h6 := rhoG_at (q0 := q0) (q1 := q1) (q2 := q2) (List.getElem?_eq_getElem h5)
    rw [show 5 + (i - 5) = i by omega] at h6
    rw [h6]
    exact hx _ (List.getElem_mem h5)))
  exact leafR_ok (ρ := rhoG q0 q1 q2 xs) (b := b) (C := C) hr h1 ht h2 hrow (varsFrom_rel fun i x hi => rhoG_at hi)
    (.cons (hgQ_rel rfl rfl rfl rfl rfl hq) (.cons (.aslice (b := b) (C := C) (by rw [show envR (rhoG q0 q1 q2 xs) hgTabs b C 64 = .live b C from Env.set_same _ _ _]; exact ⟨rfl, rfl⟩) hcp) .nil))
theorem hg_none {w : World} (ht : TabsIn w hgTabs) {pm : List MemoR} {tm dm km : List Memo} (hr : RecOk Tryz.prog 100000 (evG pm tm dm km)) {fs : List Fact} {q0 q1 q2 : Int} {v : Value} {xs : List Int} (hv : IntsIn w v xs) (h0 : xs = [])
    {r : Int} (hq : q2 % 6 = r) (h1 : hgN pm tm dm km r .nilslice fs = true) (h2 : hgN pm tm dm km r .eslice fs = true) (hf : Holds (rhoG q0 q1 q2 xs) fs) : Granted w q0 q1 q2 v := by
  rcases hv with ⟨rfl, _⟩ | ⟨a, cap, rfl, _, _⟩
  · exact leafC_ok (ρ := rhoG q0 q1 q2 xs) hr (by decide) h1 ht hf (.cons (hgQ_rel rfl rfl rfl rfl rfl hq) (.cons .nilslice .nil))
  · subst h0
    exact leafC_ok (ρ := rhoG q0 q1 q2 []) hr (by decide) h2 ht hf (.cons (hgQ_rel rfl rfl rfl rfl rfl hq) (.cons .eslice .nil))
theorem hg_long {w : World} (ht : TabsIn w hgTabs) {q0 q1 q2 : Int} {v : Value} {xs : List Int} (hv : IntsIn w v xs) (hl : 20 < xs.length)
    (hrun : okT ((evG [] [] [] []).call 3 [.agg [.sint .u8 (.var 0), .sint .u8 (.var 1), .sint .u8 (.var 2)], .oslice (.var 3)] (startC 65 hgTabs (orcI [⟨true, .var 3, .lit 0, false⟩, ⟨true, .lit 20, .var 3, true⟩]))) = true) : Granted w q0 q1 q2 v := by
  obtain ⟨a, c, rfl⟩ := intsIn_slice hv
  refine leafC_ok (ρ := fun j => if j = 0 then q0 else if j = 1 then q1 else if j = 2 then q2 else (xs.length : Int)) (evG_ok (fun M h => by cases h) (fun M h => by cases h) (fun M h => by cases h) (fun M h => by cases h)) (by decide) hrun ht ?_ (.cons (.agg (.cons (.sint .u8 (.var 0)) (.cons (.sint .u8 (.var 1)) (.cons (.sint .u8 (.var 2)) .nil)))) (.cons (.oslice rfl) .nil))
  intro g hg
  simp only [List.mem_cons, List.not_mem_nil, or_false] at hg
  rcases hg with rfl | rfl
  · show false = decide ((xs.length : Int) < 0)
    exact (decide_eq_false (by omega)).symm
  · show true = decide ((20 : Int) < (xs.length : Int))
    exact (decide_eq_true (by omega)).symm
theorem dNil {c : Memo → Bool} : ∀ M ∈ ([] : List Memo), c M = true := fun _ h => by cases h
theorem dCons {c : Memo → Bool} {M : Memo} {l : List Memo} (h : c M = true) (t : ∀ N ∈ l, c N = true) : ∀ N ∈ M :: l, c N = true := fun N hN => by
  rcases List.mem_cons.1 hN with rfl | hN
  · exact h
  · exact t N hN
theorem lNil {c : Memo → Bool} {d : HgK → List Memo} : ∀ x ∈ ([] : List HgK), ∀ M ∈ d x, c M = true := fun _ h => by cases h
theorem lCons {c : Memo → Bool} {d : HgK → List Memo} {x : HgK} {l : List HgK} (h : ∀ M ∈ d x, c M = true) (t : ∀ y ∈ l, ∀ M ∈ d y, c M = true) : ∀ y ∈ x :: l, ∀ M ∈ d y, c M = true := fun y hy => by
  rcases List.mem_cons.1 hy with rfl | hy
  · exact h
  · exact t y hy
/-- One leaf of where the window lies, one code: any row of at most 20 numbers. -/
theorem hg_done {w : World} (ht : TabsIn w hgTabs) {P : MemoR} {X Y0 Y1 D0 K0 : Memo} {L : List HgK} {fs : List Fact} {q0 q1 q2 : Int} {v : Value} {xs : List Int} (hv : IntsIn w v xs) (hx : ∀ x ∈ xs, InR x) (hl : ¬ 20 < xs.length)
    (hp : pChk P = true) (hX : tChk X = true) (hY0 : tChk Y0 = true) (hY1 : tChk Y1 = true) (hD0 : dChk D0 = true) (hK0 : kChk K0 = true) (hD : ∀ x ∈ L, ∀ M ∈ x.dm, dChk M = true) (hK : ∀ x ∈ L, ∀ M ∈ x.km, kChk M = true) (hL : L.map HgK.k = [1, 2, 3, 4, 5, 6, 7, 8, 9, 10, 11, 12, 13, 14, 15, 16, 17, 18, 19, 20])
    {r : Int} (hq : q2 % 6 = r) (h0 : hgN [P] [X, Y0] [D0] [K0] r .nilslice fs = true) (h1 : hgN [P] [X, Y0] [D0] [K0] r .eslice fs = true) (h2 : hgRow [P] [X, Y1] r fs L = true) (hf : Holds (rhoG q0 q1 q2 xs) fs) : Granted w q0 q1 q2 v := by
  have one : ∀ {α : Type} {c : α → Bool} {M : α}, c M = true → ∀ N ∈ [M], c N = true := by
    intro α c M h N hN
    rcases List.mem_cons.1 hN with rfl | hN
    · exact h
    · cases hN
  by_cases hx0 : xs = []
  · exact hg_none ht (evG_ok (one hp) (dCons hX (dCons hY0 dNil)) (one hD0) (one hK0)) hv hx0 hq h0 h1 hf
  · have hpos : xs.length ≠ 0 := fun e => hx0 (List.length_eq_zero_iff.1 e)
    have hm : xs.length ∈ L.map HgK.k := by
      rw [hL]
      have : ∀ n : Fin 21, n.val ≠ 0 → n.val ∈ [1, 2, 3, 4, 5, 6, 7, 8, 9, 10, 11, 12, 13, 14, 15, 16, 17, 18, 19, 20] := by decide
      exact this ⟨xs.length, by omega⟩ hpos
    obtain ⟨x, hxm, hxk⟩ := List.mem_map.1 hm
    exact hg_row ht (evG_ok (one hp) (dCons hX (dCons hY1 dNil)) (hD x hxm) (hK x hxm)) hv hx hxk.symm hx0 hq (hgRow_mem h2 x hxm) hf
end Ev
end Go.Proofs.YtanapnlfdoebdaaGreatDoor
namespace Go.Proofs.YtanapnlfdoebdaaGreatDoor
namespace Ev
open Go.RowKit
noncomputable def hgB : List Fact := [⟨true, (.var 0), (.lit (0)), false⟩, ⟨true, (.lit (7)), (.var 0), false⟩, ⟨true, (.var 1), (.lit (0)), false⟩, ⟨true, (.lit (31)), (.var 1), false⟩, ⟨true, (.var 2), (.lit (0)), false⟩, ⟨true, (.lit (5)), (.var 2), false⟩, ⟨true, (.var 3), (.lit (0)), false⟩, ⟨true, (.lit (42)), (.var 3), false⟩]
noncomputable def hgB2 : List Fact := [⟨true, .var 4, .lit 0, false⟩, ⟨true, .lit 42, .var 4, false⟩]
noncomputable def somes : List (Nat × AObj) → List (Nat × Option AObj)
  | [] => []
  | p :: r => (p.1, some p.2) :: somes r
noncomputable def appO : List (Nat × AObj) → List (Nat × AObj) → List (Nat × AObj)
  | [], m => m
  | x :: l, m => x :: appO l m
noncomputable def hgV0 : AV := .agg [.map 69, .map 133, .slice 197 0 2 none 0, .map 261, .nilmap, .nilmap, .int .u32 (1), .int .i64 (1), .int .u32 (0), .nilslice, .int .i64 (0), .int .u32 (0), .bool false, .int .i64 (0), .bool false, .bool false, .int .i64 (0), .int .u32 (0), .bool false, .bool false, .bool false, .int .i64 (0), .int .i64 (0), .int .i64 (0), .int .i64 (0), .int .u32 (0), .int .i64 (0), .bool false, .nilslice, .int .i64 (0), .int .u32 (0), .bool false, .int .i64 (0), .bool false, .bool false, .int .i64 (0), .int .u32 (0), .bool false, .bool false, .bool false, .int .i64 (0), .int .i64 (0), .int .i64 (0), .int .i64 (0), .int .u32 (0), .int .i64 (0), .bool false, .nilslice, .int .i64 (5), .int .i64 (4), .int .i64 (0), .int .i64 (0), .int .i64 (0), .int .u32 (0), .int .u32 (1), .map 3589, .map 3653, .nilslice, .nilmap, .map 3845, .map 3909, .nilmap, .nilslice, .nilmap, .map 4165, .map 4229, .map 4293, .map 4357, .int .i64 (10), .int .i64 (8), .int .i64 (0)]
noncomputable def hgV1 : AV := .agg [.map 69, .map 133, .slice 197 0 2 none 0, .map 261, .nilmap, .nilmap, .int .u32 (1), .int .i64 (1), .int .u32 (0), .nilslice, .int .i64 (0), .int .u32 (0), .bool false, .int .i64 (0), .bool false, .bool false, .int .i64 (0), .int .u32 (0), .bool false, .bool false, .bool false, .int .i64 (0), .int .i64 (0), .int .i64 (0), .int .i64 (0), .int .u32 (0), .int .i64 (0), .bool false, .nilslice, .int .i64 (0), .int .u32 (0), .bool false, .int .i64 (0), .bool false, .bool false, .int .i64 (0), .int .u32 (0), .bool false, .bool false, .bool false, .int .i64 (0), .int .i64 (0), .int .i64 (0), .int .i64 (0), .int .u32 (0), .int .i64 (0), .bool false, .nilslice, .int .i64 (5), .int .i64 (4), .int .i64 (0), .int .i64 (0), .int .i64 (0), .int .u32 (0), .int .u32 (1048577), .map 3589, .map 3653, .nilslice, .nilmap, .map 3845, .map 3909, .nilmap, .nilslice, .nilmap, .map 4165, .map 4229, .map 4293, .map 4357, .int .i64 (10), .int .i64 (8), .int .i64 (0)]
noncomputable def hgR0 : AV := .agg [.map 69, .map 133, .slice 197 0 2 none 0, .map 261, .nilmap, .nilmap, .int .u32 (1), .int .i64 (1), .int .u32 (0), .nilslice, .int .i64 (0), .int .u32 (0), .bool false, .int .i64 (0), .bool false, .bool false, .int .i64 (0), .int .u32 (0), .bool false, .bool false, .bool false, .int .i64 (0), .int .i64 (0), .int .i64 (0), .int .i64 (0), .int .u32 (0), .int .i64 (0), .bool false, .nilslice, .int .i64 (0), .int .u32 (0), .bool false, .int .i64 (0), .bool false, .bool false, .int .i64 (0), .int .u32 (0), .bool false, .bool false, .bool false, .int .i64 (0), .int .i64 (0), .int .i64 (0), .int .i64 (0), .int .u32 (0), .int .i64 (0), .bool false, .nilslice, .int .i64 (5), .int .i64 (4), .int .i64 (0), .int .i64 (0), .int .i64 (0), .int .u32 (0), .int .u32 (1), .map 3589, .map 3653, .nilslice, .nilmap, .map 4623, .map 3909, .nilmap, .nilslice, .nilmap, .map 4627, .map 4624, .map 4625, .map 4626, .int .i64 (10), .int .i64 (8), .int .i64 (0)]
noncomputable def hgR1 : AV := .agg [.map 69, .map 133, .slice 197 0 2 none 0, .map 261, .nilmap, .nilmap, .int .u32 (1), .int .i64 (1), .int .u32 (0), .nilslice, .int .i64 (0), .int .u32 (0), .bool false, .int .i64 (0), .bool false, .bool false, .int .i64 (0), .int .u32 (0), .bool false, .bool false, .bool false, .int .i64 (0), .int .i64 (0), .int .i64 (0), .int .i64 (0), .int .u32 (0), .int .i64 (0), .bool false, .nilslice, .int .i64 (0), .int .u32 (0), .bool false, .int .i64 (0), .bool false, .bool false, .int .i64 (0), .int .u32 (0), .bool false, .bool false, .bool false, .int .i64 (0), .int .i64 (0), .int .i64 (0), .int .i64 (0), .int .u32 (0), .int .i64 (0), .bool false, .nilslice, .int .i64 (5), .int .i64 (4), .int .i64 (0), .int .i64 (0), .int .i64 (0), .int .u32 (0), .int .u32 (1), .map 3589, .map 3653, .nilslice, .nilmap, .map 4624, .map 3909, .nilmap, .nilslice, .nilmap, .map 4628, .map 4625, .map 4626, .map 4627, .int .i64 (10), .int .i64 (8), .int .i64 (0)]
noncomputable def hgR2 : AV := .agg [.map 69, .map 133, .slice 197 0 2 none 0, .map 261, .nilmap, .nilmap, .int .u32 (1), .int .i64 (1), .int .u32 (0), .nilslice, .int .i64 (0), .int .u32 (0), .bool false, .int .i64 (0), .bool false, .bool false, .int .i64 (0), .int .u32 (0), .bool false, .bool false, .bool false, .int .i64 (0), .int .i64 (0), .int .i64 (0), .int .i64 (0), .int .u32 (0), .int .i64 (0), .bool false, .nilslice, .int .i64 (0), .int .u32 (0), .bool false, .int .i64 (0), .bool false, .bool false, .int .i64 (0), .int .u32 (0), .bool false, .bool false, .bool false, .int .i64 (0), .int .i64 (0), .int .i64 (0), .int .i64 (0), .int .u32 (0), .int .i64 (0), .bool false, .nilslice, .int .i64 (5), .int .i64 (4), .int .i64 (0), .int .i64 (0), .int .i64 (0), .int .u32 (0), .int .u32 (1048577), .map 3589, .map 3653, .nilslice, .nilmap, .map 4623, .map 3909, .nilmap, .nilslice, .nilmap, .map 4627, .map 4624, .map 4625, .map 4626, .int .i64 (10), .int .i64 (8), .int .i64 (0)]
noncomputable def hgR3 : AV := .agg [.map 69, .map 133, .slice 197 0 2 none 0, .map 261, .nilmap, .nilmap, .int .u32 (1), .int .i64 (1), .int .u32 (0), .nilslice, .int .i64 (0), .int .u32 (0), .bool false, .int .i64 (0), .bool false, .bool false, .int .i64 (0), .int .u32 (0), .bool false, .bool false, .bool false, .int .i64 (0), .int .i64 (0), .int .i64 (0), .int .i64 (0), .int .u32 (0), .int .i64 (0), .bool false, .nilslice, .int .i64 (0), .int .u32 (0), .bool false, .int .i64 (0), .bool false, .bool false, .int .i64 (0), .int .u32 (0), .bool false, .bool false, .bool false, .int .i64 (0), .int .i64 (0), .int .i64 (0), .int .i64 (0), .int .u32 (0), .int .i64 (0), .bool false, .nilslice, .int .i64 (5), .int .i64 (4), .int .i64 (0), .int .i64 (0), .int .i64 (0), .int .u32 (0), .int .u32 (1048577), .map 3589, .map 3653, .nilslice, .nilmap, .map 4624, .map 3909, .nilmap, .nilslice, .nilmap, .map 4628, .map 4625, .map 4626, .map 4627, .int .i64 (10), .int .i64 (8), .int .i64 (0)]
noncomputable def hgC0 : List (Nat × AObj) := [(4623, .map [] 0), (4625, .map [] 0), (4626, .map [⟨.int .i64 (1), .bool true, 0⟩, ⟨.int .i64 (2), .bool true, 1⟩, ⟨.int .i64 (3), .bool true, 2⟩] 3)]
noncomputable def hgC1 : List (Nat × AObj) := [(4624, .map [] 0), (4626, .map [] 0), (4627, .map [⟨.int .i64 (1), .bool true, 0⟩, ⟨.int .i64 (2), .bool true, 1⟩, ⟨.int .i64 (3), .bool true, 2⟩] 3)]
end Ev
end Go.Proofs.YtanapnlfdoebdaaGreatDoor
