/-
  WorldNew by the evaluator: grid.New as a contract.
  WorldNew by the evaluator: numbers' texts as contracts.
  WorldNew by the evaluator: strconv's numbers as contracts.
  WorldNew by the evaluator: FormatUint of a number below 256, by 256 runs.
-/
import Derived.Test.YtpklliedmplpdaaGreatDoorSy30
import Derived.Test.YtpklliedmplpdaaGreatDoorWb
import Derived.Test.YtpklliedmplpdaaGreatDoorShelf
import Derived.Lib.ItoaLen
namespace Go.Proofs.YtpklliedmplpdaaGreatDoor
namespace Ev
open Go.RowKit

/-- A flat grid, new. -/
noncomputable def gridNewA (args : List AV) (s : St) : R := match args with
  | [a, b, p] => seC a fun k1 x => seC b fun k2 y => seC p fun k3 z => match k1, k2, k3 with
    | .i64, .i64, .u8 => bc (notLt s.o x (.lit 1)) (bc (notLt s.o (.lit 128) x) (bc (notLt s.o y (.lit 1)) (bc (notLt s.o (.lit 128) y)
        (some (.tuple [.agg [a, b, .fslice s.c (.bin .mul .i64 x y)], .int .i64 0], s.new (.flat (.bin .mul .i64 x y) z 22))))))
    | _, _, _ => none
  | _ => none
theorem Flat.block {w : World} {g n : Nat} {p : Int} (h : Flat w g n p) : w.heap[g]? = some (.cells (Array.replicate n (.int .u8 p)) 22 (0, 0)) := by
  rcases h.2 with ⟨h', _⟩ | ⟨g', cap', cur, h', _, hg, hle, _, hsz, ht⟩
  · simp at h'
  · simp only [Value.slice.injEq, Option.some.injEq, Addr.mk.injEq, and_true, true_and] at h'
    obtain ⟨rfl, rfl⟩ := h'
    rw [hg]
    have : cur = Array.replicate n (.int .u8 p) := by
      apply Array.ext'
      rw [Array.toList_replicate, ← ht, List.take_of_length_le (by simp at hsz ⊢; omega)]
    rw [this]
theorem gridNew_ok : ∀ {args : List AV} {s : St} {v : AV} {s' : St}, gridNewA args s = some (v, s') → Step s s' ∧ ∀ {G : Nat → Prop} {B : Nat} {E : Env} {w : World} {args' : Array Value}, (∀ j, In s'.l j → G j) → Sat G B E s w → RelL E args args'.toList →
    CallRes Tryz.prog 64 args' w (RetOk G B s' v E w) := by
  intro args s v s' h
  unfold gridNewA at h
  split at h
  case h_2 => cases h
  rename_i a b p
  obtain ⟨k1, x, h1, hx⟩ := seC_some h
  obtain ⟨k2, y, h2, hy⟩ := seC_some h1
  obtain ⟨k3, z, h3, hz⟩ := seC_some h2
  clear h h1 h2
  split at h3
  case h_2 => cases h3
  obtain ⟨c1, h4⟩ := bc_some h3
  obtain ⟨c2, h5⟩ := bc_some h4
  obtain ⟨c3, h6⟩ := bc_some h5
  obtain ⟨c4, h7⟩ := bc_some h6
  clear h3 h4 h5 h6
  cases h7
  refine ⟨Step.new _ _, fun {G B E w args'} hG hs ha => ?_⟩
  obtain ⟨l⟩ := args'
  cases ha with | cons r1 t1 => cases t1 with | cons r2 t2 => cases t2 with | cons r3 t3 =>
  cases t3
  obtain rfl := hx r1
  obtain rfl := hy r2
  obtain rfl := hz r3
  have d1 := notLt_ok hs.orc c1
  have d2 := notLt_ok hs.orc c2
  have d3 := notLt_ok hs.orc c3
  have d4 := notLt_ok hs.orc c4
  simp only [SE.val] at d1 d2 d3 d4
  have hm0 : 0 ≤ x.val E.ρ * y.val E.ρ := Int.mul_nonneg (by omega) (by omega)
  have hm1 : x.val E.ρ * y.val E.ρ ≤ 128 * 128 := Int.mul_le_mul d2 d4 (by omega) (by omega)
  have hn : x.val E.ρ * y.val E.ρ = ((x.val E.ρ * y.val E.ρ).toNat : Int) := by omega
  have hw : (SE.bin .mul .i64 x y).val E.ρ = x.val E.ρ * y.val E.ρ := by
    show IntKind.i64.wrap _ = _
    rw [IntKind.wrap_i64]; omega
  refine ⟨enters Tryz.func64 (by kernel_rfl) rfl _ _, callsIn_wide.2 ((gnew_yes (x.val E.ρ) (y.val E.ρ) (z.val E.ρ) _ w d1 d2 d3 d4 hn).mono ?_)⟩
  rintro e w' ⟨g, rfl, hg, hfl, hb⟩
  obtain ⟨q1, q2⟩ := hs.adopt (o := .flat (.bin .mul .i64 x y) z 22) (C := 0) (hG _ (in_new _ _)) hb hg (Flat.block hfl) (by
    show _ = _
    rw [show (E.set s.c (.live g 0)).ρ = E.ρ from rfl, hw])
  have hle : E.le (E.set s.c (.live g 0)) := q2.le
  refine ⟨_, _, rfl, .tuple (.cons (.agg (.cons (r1.mono hle) (.cons (r2.mono hle) (.cons ?_ .nil)))) (.cons (.int _ _) .nil)), q1, q2⟩
  have := Rel.fslice (E := E.set s.c (.live g 0)) (i := s.c) (b := g) (n := .bin .mul .i64 x y) (by rw [Env.set_same]; rfl)
  rw [show (E.set s.c (.live g 0)).ρ = E.ρ from rfl, hw] at this
  exact this
end Ev
end Go.Proofs.YtpklliedmplpdaaGreatDoor
namespace Go.Proofs.YtpklliedmplpdaaGreatDoor
namespace Ev
open Go.RowKit

/-- Numbers below 100, in tens. -/
noncomputable def tens (n : Nat) : List UInt8 := bi (Nat.blt n (nat_lit 10)) [UInt8.ofNat (Nat.add (nat_lit 48) n)] [UInt8.ofNat (Nat.add (nat_lit 48) (Nat.div n (nat_lit 10))), UInt8.ofNat (Nat.add (nat_lit 48) (Nat.mod n (nat_lit 10)))]
theorem tens_ok (n : Nat) (h : n < 100) : Lib.itoa (n : Int) = tens n := by
  rw [Lib.itoa_nonneg]
  unfold tens
  by_cases h1 : n < 10
  · rw [show Nat.blt n (nat_lit 10) = true from by simpa using h1, bi_true, Lib.decDigits, dif_pos h1]
    rfl
  · have h2 : n / 10 < 10 := by omega
    rw [show Nat.blt n (nat_lit 10) = false from Bool.eq_false_iff.2 (fun hc => h1 (by simpa using hc)), bi_false, Lib.decDigits, dif_neg h1, Lib.decDigits, dif_pos h2]
    rfl
/-- A number's text: a literal below 100, or an expression that is in int64's range. -/
noncomputable def numP (O : Orc) (e : SE) : Option AV := match e with
  | .lit n => oc (natOf n) fun m => bc (Nat.blt m (nat_lit 100)) (some (.str (tens m)))
  | e => bc (notLt O e (.lit (-9223372036854775808))) (bc (notLt O (.lit 9223372036854775807) e) (some (.pstr [.dec e])))
theorem numP_ok {O : Orc} {E : Env} (ho : OrcOk O E.ρ) {e : SE} {v : AV} (h : numP O e = some v) : -9223372036854775808 ≤ e.val E.ρ ∧ e.val E.ρ ≤ 9223372036854775807 ∧ ∀ {E' : Env}, E'.ρ = E.ρ → Rel E' v (.string ⟨(Lib.itoa (e.val E.ρ)).toArray⟩) := by
  unfold numP at h
  split at h
  · rename_i n
    obtain ⟨m, hm, h1⟩ := oc_some h
    obtain ⟨hl, h2⟩ := bc_some h1
    cases h2
    have hn := natOf_some hm
    subst hn
    have hl' : m < 100 := by simpa using hl
    refine ⟨by simp only [SE.val]; omega, by simp only [SE.val]; omega, fun _ => ?_⟩
    rw [show (SE.lit (m : Int)).val E.ρ = (m : Int) from rfl, tens_ok m hl']
    exact .str _
  · obtain ⟨c1, h1⟩ := bc_some h
    obtain ⟨c2, h2⟩ := bc_some h1
    cases h2
    have d1 := notLt_ok ho c1
    have d2 := notLt_ok ho c2
    simp only [SE.val] at d1 d2
    refine ⟨d1, d2, fun {E'} hρ => ?_⟩
    have hlen := Lib.itoa_length_le _ d1 d2
    have hp : psVal E'.ρ [.dec e] = Lib.itoa (e.val E.ρ) := by
      rw [hρ]
      simp only [psVal, Pc.val, List.append_nil]
      exact List.take_of_length_le (by omega)
    have := Rel.pstr (E := E') [.dec e]
    rw [hp] at this
    exact this
end Ev
end Go.Proofs.YtpklliedmplpdaaGreatDoor
namespace Go.Proofs.YtpklliedmplpdaaGreatDoor
namespace Ev
open Go.RowKit Go.Sort

noncomputable def powA : List AV := Lib.pow10Tab.map (AV.int .u64)
theorem relL_ints {E : Env} {k : IntKind} : ∀ {zs : List Int} {ys : List Value}, RelL E (zs.map (AV.int k)) ys → ys = zs.map (Value.int k)
  | [], _, .nil => rfl
  | z :: zs, _, .cons h t => by
    cases h
    rw [relL_ints t]
    rfl
theorem below_grow (w : World) (q : Nat) (os : Array Obj) : Below w.heap.size w (grow (w.drewN q) os) :=
  ⟨rfl, rfl, rfl, by simp [grow, World.drewN], fun b hb => by
    show ((w.drewN q).heap ++ os)[b]? = w.heap[b]?
    rw [show (w.drewN q).heap = w.heap from rfl, Array.getElem?_append_left hb]⟩
theorem tabIs_of {G : Nat → Prop} {B : Nat} {E : Env} {s : St} {w : World} (hs : Sat G B E s w) (hg : G 1) (h : tabEq (s.h.get 1) powA = true) : Lib.TabIs Tryz.prog w "internal/strconv.uint64pow10" .u64 Lib.pow10Tab := by
  unfold tabEq at h
  split at h
  · rename_i m ho
    obtain ⟨b, C, ob, he, hh, hok, _⟩ := hs.fact _ _ hg ho
    obtain ⟨c, e, f, rfl, hr⟩ := hok
    have := hs.at_live he (hs.glob _ (by decide))
    subst this
    have h1 : Tryz.prog.globalNamed "internal/strconv.uint64pow10" = some 1 := by kernel_rfl
    have h2 : RelL E powA c.toList := plainsEq_ok h hr
    have h3 := relL_ints h2
    unfold Lib.TabIs World.var?
    rw [h1]
    show (match w.heap[1]? with | some (.cells cs _ _) => some cs | _ => none) = _
    rw [hh, ← h3]
  · cases h
/-- Itoa; FormatInt with base 10. -/
noncomputable def itoaA (args : List AV) (s : St) : R := match args with
  | [x] => seC x fun k e => match k with
    | .i64 => bc (tabEq (s.h.get 1) powA) (oc (numP s.o e) fun v => some (v, s.see 1))
    | _ => none
  | _ => none
noncomputable def fmtA (args : List AV) (s : St) : R := match args with
  | [x, y] => y.intC fun q n => bc (kindEq q .i64) (bc (eqA n 10) (itoaA [x] s))
  | _ => none
theorem itoaA_some {args : List AV} {s s' : St} {v : AV} (h : itoaA args s = some (v, s')) : ∃ x, args = [x] ∧ ∃ e, numP s.o e = some v ∧ s' = s.see 1 ∧ tabEq (s.h.get 1) powA = true ∧ ∀ {E : Env} {x' : Value}, Rel E x x' → x' = .int .i64 (e.val E.ρ) := by
  unfold itoaA at h
  split at h
  case h_2 => cases h
  rename_i x
  obtain ⟨k, e, h1, hx⟩ := seC_some h
  split at h1
  case h_2 => cases h1
  obtain ⟨ht, h2⟩ := bc_some h1
  obtain ⟨v', hv, h3⟩ := oc_some h2
  cases h3
  exact ⟨x, rfl, e, hv, rfl, ht, hx⟩
/-- What any function does that tells a number as a text. -/
theorem numRet {G : Nat → Prop} {B : Nat} {E : Env} {s : St} {w : World} {v : AV} {e : SE} (hs : Sat G B E s w) (hv : numP s.o e = some v) {i : Nat} {en : Ending} {w' : World} (h : en = .returned (.string ⟨(Lib.itoa (e.val E.ρ)).toArray⟩) ∧ ∃ k os, w' = grow (w.drewN k) os) : RetOk G B (s.see i) v E w en w' := by
  obtain ⟨rfl, k, os, rfl⟩ := h
  obtain ⟨_, _, hr⟩ := numP_ok hs.orc hv
  obtain ⟨k1, k2⟩ := hs.later (below_grow w k os)
  exact ⟨E, _, rfl, hr rfl, k1.seen i, k2 _⟩
theorem itoa_ok : ∀ {args : List AV} {s : St} {v : AV} {s' : St}, itoaA args s = some (v, s') → Step s s' ∧ ∀ {G : Nat → Prop} {B : Nat} {E : Env} {w : World} {args' : Array Value}, (∀ j, In s'.l j → G j) → Sat G B E s w → RelL E args args'.toList →
    CallRes Tryz.prog 42 args' w (RetOk G B s' v E w) := by
  intro args s v s' h
  obtain ⟨x, rfl, e, hv, rfl, ht, hx⟩ := itoaA_some h
  refine ⟨Step.see _ _, fun {G B E w args'} hG hs ha => ?_⟩
  obtain ⟨l⟩ := args'
  cases ha with | cons r1 t1 =>
  cases t1
  obtain rfl := hx r1
  obtain ⟨d1, d2, _⟩ := numP_ok hs.orc hv
  refine ⟨enters Tryz.func42 (by kernel_rfl) rfl _ _, callsIn_wide.2 ((Tryz.strconv_Itoa (e.val E.ρ) d1 d2 w (tabIs_of hs (hG _ (in_see _ _)) ht)).mono ?_)⟩
  exact fun _ _ h => numRet hs hv h
theorem fmt_ok : ∀ {args : List AV} {s : St} {v : AV} {s' : St}, fmtA args s = some (v, s') → Step s s' ∧ ∀ {G : Nat → Prop} {B : Nat} {E : Env} {w : World} {args' : Array Value}, (∀ j, In s'.l j → G j) → Sat G B E s w → RelL E args args'.toList →
    CallRes Tryz.prog 101 args' w (RetOk G B s' v E w) := by
  intro args s v s' h
  unfold fmtA at h
  split at h
  case h_2 => cases h
  rename_i x0 y0
  obtain ⟨q, n, rfl, h1⟩ := intC_some h
  obtain ⟨c1, h2⟩ := bc_some h1
  obtain ⟨c2, h3⟩ := bc_some h2
  have c1 := kindEq_ok c1
  subst c1
  rw [eqA_eq] at c2
  have c2 := of_decide_eq_true c2
  subst c2
  obtain ⟨x, hx0, e, hv, rfl, ht, hx⟩ := itoaA_some h3
  cases hx0
  refine ⟨Step.see _ _, fun {G B E w args'} hG hs ha => ?_⟩
  obtain ⟨l⟩ := args'
  cases ha with | cons r1 t1 => cases t1 with | cons r2 t2 =>
  cases t2
  cases r2
  obtain rfl := hx r1
  obtain ⟨d1, d2, _⟩ := numP_ok hs.orc hv
  refine ⟨enters Tryz.func101 (by kernel_rfl) rfl _ _, callsIn_wide.2 ((Tryz.strconv_FormatInt_10 (e.val E.ρ) d1 d2 w (tabIs_of hs (hG _ (in_see _ _)) ht)).mono ?_)⟩
  exact fun _ _ h => numRet hs hv h
end Ev
end Go.Proofs.YtpklliedmplpdaaGreatDoor
namespace Go.Proofs.YtpklliedmplpdaaGreatDoor
namespace Ev
open Go.RowKit Go.Sort

noncomputable def dig (n : Nat) : UInt8 := UInt8.ofNat (Nat.add (nat_lit 48) n)
noncomputable def tens3 (n : Nat) : List UInt8 := bi (Nat.blt n (nat_lit 100)) (tens n) [dig (Nat.div n (nat_lit 100)), dig (Nat.mod (Nat.div n (nat_lit 10)) (nat_lit 10)), dig (Nat.mod n (nat_lit 10))]
theorem tens3_ok (n : Nat) (h : n < 1000) : Lib.itoa (n : Int) = tens3 n := by
  unfold tens3
  by_cases h1 : n < 100
  · rw [show Nat.blt n (nat_lit 100) = true from by simpa using h1, bi_true, tens_ok n h1]
  · rw [show Nat.blt n (nat_lit 100) = false from Bool.eq_false_iff.2 (fun hc => h1 (by simpa using hc)), bi_false, Lib.itoa_nonneg]
    have h2 : ¬ n < 10 := by omega
    have h3 : ¬ n / 10 < 10 := by omega
    have h4 : n / 10 / 10 < 10 := by omega
    rw [Lib.decDigits, dif_neg h2, Lib.decDigits, dif_neg h3, Lib.decDigits, dif_pos h4]
    have h5 : n / 10 / 10 = n / 100 := by omega
    rw [h5]
    rfl
noncomputable def okS (x : R) (l : List UInt8) : Bool := match x with
  | some (.str m, _) => bytesEq m l
  | _ => false
theorem okS_some {x : R} {l : List UInt8} (h : okS x l = true) : ∃ s, x = some (.str l, s) := by
  unfold okS at h
  split at h
  · rename_i m s
    rw [bytesEq_eq] at h
    have : m = l := by simpa using h
    subst this
    exact ⟨s, rfl⟩
  · cases h
noncomputable def powT : List (Nat × List AV) := [(1, powA)]
theorem uint_runs : ((List.range 256).all fun n => okS ((ev Tryz.prog (fun _ => none) 10000).call 127 [.int .u64 (Int.ofNat n), .int .i64 10] (startT powT noOrc)) (tens3 n)) = true := by kernel_rfl
noncomputable def fmtUA (args : List AV) (s : St) : R := match args with
  | [x, y] => y.intC fun q n => bc (kindEq q .i64) (bc (eqA n 10) (seC x fun k e => bc (kindEq k .u64) (bc (notLt s.o e (.lit 0)) (bc (notLt s.o (.lit 255) e) (bc (tabsIn s powT) (oc (numP s.o e) fun v => some (v, s.see 1)))))))
  | _ => none
theorem names_ok : (Tryz.prog.funcs.toList.all fun fn => fn.name != "runtime.NumGoroutine") = true := by kernel_rfl
theorem names_ne (f : FuncId) (fn : Func) (hf : Tryz.prog.funcs[f]? = some fn) : fn.name ≠ "runtime.NumGoroutine" := by
  have := List.all_eq_true.1 names_ok fn (by
    rw [← Array.getElem?_toList] at hf
    exact List.mem_of_getElem? hf)
  simpa using this
theorem mixed_ok : Tryz.prog.follows .mixedOrders = true := by kernel_rfl
theorem fmtU_ok : ∀ {args : List AV} {s : St} {v : AV} {s' : St}, fmtUA args s = some (v, s') → Step s s' ∧ ∀ {G : Nat → Prop} {B : Nat} {E : Env} {w : World} {args' : Array Value}, (∀ j, In s'.l j → G j) → Sat G B E s w → RelL E args args'.toList →
    CallRes Tryz.prog 127 args' w (RetOk G B s' v E w) := by
  intro args s v s' h
  unfold fmtUA at h
  split at h
  case h_2 => cases h
  rename_i x0 y0
  obtain ⟨q, n, rfl, h1⟩ := intC_some h
  obtain ⟨c1, h2⟩ := bc_some h1
  obtain ⟨c2, h3⟩ := bc_some h2
  have c1 := kindEq_ok c1
  subst c1
  rw [eqA_eq] at c2
  have c2 := of_decide_eq_true c2
  subst c2
  obtain ⟨k, e, h4, hx⟩ := seC_some h3
  obtain ⟨c3, h5⟩ := bc_some h4
  have c3 := kindEq_ok c3
  subst c3
  obtain ⟨c4, h6⟩ := bc_some h5
  obtain ⟨c5, h7⟩ := bc_some h6
  obtain ⟨c6, h8⟩ := bc_some h7
  obtain ⟨v', hv, h9⟩ := oc_some h8
  cases h9
  clear h h1 h2 h3 h4 h5 h6 h7 h8
  refine ⟨Step.see _ _, fun {G B E w args'} hG hs ha => ?_⟩
  obtain ⟨l⟩ := args'
  cases ha with | cons r1 t1 => cases t1 with | cons r2 t2 =>
  cases t2
  cases r2
  obtain rfl := hx r1
  have d1 := notLt_ok hs.orc c4
  have d2 := notLt_ok hs.orc c5
  simp only [SE.val] at d1 d2
  obtain ⟨m, hm⟩ : ∃ m : Nat, e.val E.ρ = m := ⟨(e.val E.ρ).toNat, by omega⟩
  have hlt : m < 256 := by omega
  obtain ⟨s1, hs1⟩ := okS_some (List.all_eq_true.1 uint_runs m (List.mem_range.2 hlt))
  have htabs := tabsIn_ok hs c6 (fun g l hm => by
    simp only [powT, List.mem_singleton, Prod.mk.injEq] at hm
    rw [hm.1]
    exact hG _ (in_see _ _))
  obtain ⟨hent, hcalls⟩ := ((ev_ok mixed_ok noCtr_ok names_ne 10000).call hs1).2 (fun _ _ => trivial) (satT htabs (noOrc_ok fun _ => 0)) (args' := #[.int .u64 (e.val E.ρ), .int .i64 10]) (by rw [hm]; exact .cons (.int _ _) (.cons (.int _ _) .nil))
  refine ⟨hent, hcalls.mono fun en w' he => ?_⟩
  obtain ⟨E', v'', rfl, hv', _, hxx⟩ := he
  cases hv'
  obtain ⟨_, _, hr⟩ := numP_ok hs.orc hv
  obtain ⟨k1, k2⟩ := hs.later hxx.below
  rw [← tens3_ok m (by omega), ← hm]
  exact ⟨E, _, rfl, hr rfl, k1.seen _, k2 _⟩
end Ev
end Go.Proofs.YtpklliedmplpdaaGreatDoor
