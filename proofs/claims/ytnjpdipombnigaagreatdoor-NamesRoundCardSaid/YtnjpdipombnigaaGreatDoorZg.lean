/-
  Data of any size: a body in parts, loops among them.
  Data of any size: what operations on it come to.
  Data of any size: parts of a body by runs, the ids found by going through; what a template doesn't name may be any data.
-/
import Derived.Test.YtnjpdipombnigaaGreatDoorZf
namespace Go.Proofs.YtnjpdipombnigaaGreatDoor
namespace Ev
open Go.RowKit

/-- From the template, under this data, a body comes to that data. -/
def GoD (tabs : List (Nat × List AV)) (fn : Func) (c : Code) (t : Tm) (ρ : Nat → Int) (δ : Nat → D) (r : DV) : Prop :=
  ∀ {K0 : Nat → Prop} {w0 : World} {ac : Act} {w : World} {R : Ending → World → Prop}, InS tabs K0 w0 ρ δ fn.ntmps t ac w → (∀ u w', Below w0.heap.size w0 w' → ReprV (fun b => K0 b ∨ (w0.heap.size ≤ b ∧ b < w'.heap.size)) (fun b => w'.heap[b]?) r u → R (.returned u) w') →
    c.wpIn Fence.wide 0 theProg (bodyPostM Fence.wide 0 theProg fn R) ac w
section
variable {tabs : List (Nat × List AV)} {fn : Func} {x y : Code} {t t' : Tm} {ρ ρ' : Nat → Int} {δ δ' : Nat → D} {r : DV}
theorem goD_stmt (h : Leads tabs fn.ntmps x t ρ δ .normal t' ρ' δ') (k : GoD tabs fn y t' ρ' δ' r) : GoD tabs fn (.seq x y) t ρ δ r :=
  fun hin hR => wpIn_seq (h hin fun _ _ h1 => k h1 hR)
/-- The last part, by a run. -/
theorem goD_end {fl : List FuncId} {n m : Nat} {ds : List Def} {res : AV} (hmix : theProg.follows .mixedOrders = true) (hnames : (theProg.funcs.toList.all fun fn => fn.name != "runtime.NumGoroutine") = true)
    (hrun : retD theProg res (topS theProg (ev theProg (ctrL theProg fl) n) fn (t.stD tabs ds) m x [(.normal, t.fr, t.stD tabs ds)]) = true) (hd : ∀ d ∈ ds, DefOk tabs ρ δ d) (hr : IsV ρ δ res r) : GoD tabs fn x t ρ δ r := by
  intro K0 w0 ac w R hin hR
  obtain ⟨E, rfl, rfl, hs, hf, hk, hk2, hb⟩ := hin
  obtain ⟨v, s', v2, s2, h1, h2, h3⟩ := retD_some hrun
  have hrec := ev_ok hmix (ctrL_ok fl) (names_of hnames) n
  have hs0 := satTold hs hd
  obtain ⟨_, _, p3⟩ := topS_ok hrec (fun j hj => absurd hj (not_in_zero j)) _ _ _ _ _ h1 (fun a ha => by rw [List.mem_singleton] at ha; subst ha; exact ⟨rfl, Step.refl _⟩)
  refine p3 _ (List.mem_singleton.2 rfl) (fun _ _ => trivial) hs0 hf hs0 (Ext.refl _ _ _ _) fun E' u w' hu hs' hx => ?_
  obtain ⟨qs, q2⟩ := packV_ok (P := theProg) 40 h2
  obtain ⟨E2, m1, m2, m3⟩ := q2 (fun _ _ => trivial) hs' hu
  have hx2 := hx.trans m2 qs.w
  refine hR u w' (hb.trans hx2.below) ?_
  have h4 : Rel (pureEnv E.ρ E.δ E2.K fun b => w'.heap[b]?) res u := symV_ok (E := E2) (F := pureEnv E.ρ E.δ E2.K fun b => w'.heap[b]?) ⟨hx2.le.ρ.symm, hx2.le.δ.symm, fun _ h => h, fun b hk => (m1.prot b hk).2.1⟩ 40 _ _ _ h3 m3
  refine (hr.to h4).mono (fun b hb => ?_) (fun _ _ => rfl)
  rcases hx2.kn b hb with h5 | h5
  · rcases hk2 b h5 with h6 | h6
    · exact .inl h6
    · exact .inr ⟨h6, (m1.prot b hb).1⟩
  · exact .inr ⟨h5, (m1.prot b hb).1⟩
/-- A function, by its body in parts. -/
theorem funD_of {f : FuncId} {args : List AV} {a : List DV} {c : Nat} {fs : List Fact} (hfn : theProg.funcs[f]? = some fn) (hb : fn.body = some x) (hc : 64 ≤ c) (hle : args.length ≤ fn.ntmps) (hf : ∀ f ∈ fs, f.holds ρ) (ha : IsVL ρ δ args a) (ht : t = ⟨c, [], fs, t.frl⟩) (hfr : ∀ p ∈ t.frl, (argsA 0 args .e).get p.1 = some p.2)
    (hg : GoD tabs fn x t ρ δ r) : FunD tabs f a r := by
  intro K w vs hK htb hv
  refine (callsIn_wide (n := 0)).1 (callsIn_of_wp_marks (n := 0) hfn hb trivial ?_)
  have hs := satD (K := K) (δ := δ) (ds := []) htb hf (fun d hd => absurd hd List.not_mem_nil) hK hc
  have hargs : RelL (envD ρ δ K (fun b => w.heap[b]?) tabs) args vs.toList := pure_relL (F := envD ρ δ K (fun b => w.heap[b]?) tabs) ⟨rfl, rfl, fun _ h => h, fun _ _ => rfl⟩ (ha.fro hv)
  have hT := args_rel hargs hle
  have hs2 : Sat (fun _ => True) w.heap.size (envD ρ δ K (fun b => w.heap[b]?) tabs) (t.st tabs) w := by
    rw [ht]
    exact ⟨hs.inj, hs.lt, hs.base, hs.glob, hs.fresh, hs.fact, orcI_ok hf, hs.prot, fun d hd => absurd hd List.not_mem_nil⟩
  refine hg (K0 := K) (w0 := w) ⟨_, rfl, rfl, hs2, ⟨⟨hT.1, fun i v hi => hT.2 i v (hfr _ (putsT_get hi))⟩, .nil⟩, fun b h => h, fun b h => .inl h, Below.refl _ _⟩ fun u w' h1 h2 => ?_
  exact ⟨u, rfl, h1, h2⟩
end
end Ev
end Go.Proofs.YtnjpdipombnigaaGreatDoor
namespace Go.Proofs.YtnjpdipombnigaaGreatDoor
namespace Ev
open Go.RowKit

section
variable {tabs : List (Nat × List AV)} {ρ : Nat → Int} {δ : Nat → D}
/-- A slice's type, its elements of so many cells. -/
noncomputable def sliceT (P : Program) (t z : Nat) : Bool := match P.underlying t with
  | some (.slice e) => (match szOf P e with
    | some n => Nat.beq n z && Nat.blt (nat_lit 0) z
    | none => false)
  | _ => false
theorem sliceT_ok {P : Program} {t z : Nat} (h : sliceT P t z = true) : ∃ e, P.underlying t = some (.slice e) ∧ szOf P e = some z ∧ 0 < z := by
  unfold sliceT at h
  split at h
  · rename_i e hu
    split at h
    · rename_i n hn
      rw [Bool.and_eq_true] at h
      obtain rfl := Nat.eq_of_beq_eq_true h.1
      exact ⟨e, hu, hn, by simpa using h.2⟩
    · cases h
  · cases h
theorem opOk {k : Nat} {ts : List Nat} {args : List AV} {res : AV} (hk : k < 30) (h : ∀ (K : Nat → Prop) (w : World) (vs : List Value), (∀ b, K b → b < w.heap.size) → RelL (pureEnv ρ δ K fun b => w.heap[b]?) args vs → ∃ m u, OSem k ts vs = some m ∧ m.run theProg w = .ok u w ∧ Rel (pureEnv ρ δ K fun b => w.heap[b]?) res u) :
    DefOk tabs ρ δ ⟨opBase + k, ts, args, res⟩ := by
  unfold DefOk
  rw [if_neg (show ¬ (Def.mk (opBase + k) ts args res).f = catF from notCat hk), if_neg (Nat.not_lt.2 (Nat.le_add_right _ _)), if_neg (show ¬ effBase ≤ opBase + k from notEff hk)]
  intro K w vs hK hv
  obtain ⟨m, u, h1, h2, h3⟩ := h K w vs hK hv
  exact ⟨m, u, by rw [Nat.add_sub_cancel_left]; exact h1, h2, h3⟩
theorem effOk {k : Nat} {ts : List Nat} {args : List AV} {res : AV} (hk : k < 40) (h : ∀ (K : Nat → Prop) (w : World) (vs : List Value), (∀ b, K b → b < w.heap.size) → RelL (pureEnv ρ δ K fun b => w.heap[b]?) args vs → ∃ m u w', ESem k ts vs = some m ∧ m.run theProg w = .ok u w' ∧ Below w.heap.size w w' ∧ Rel (pureEnv ρ δ (fun b => K b ∨ (w.heap.size ≤ b ∧ b < w'.heap.size)) fun b => w'.heap[b]?) res u) :
    DefOk tabs ρ δ ⟨effBase + k, ts, args, res⟩ := by
  unfold DefOk
  rw [if_neg (show ¬ (Def.mk (effBase + k) ts args res).f = catF from (effNot hk).1), if_neg (show ¬ (Def.mk (effBase + k) ts args res).f < opBase from (effNot hk).2), if_pos (show effBase ≤ effBase + k from Nat.le_add_right _ _)]
  intro K w vs hK hv
  obtain ⟨m, u, w', h1, h2, h3⟩ := h K w vs hK hv
  exact ⟨m, u, w', by rw [Nat.add_sub_cancel_left]; exact h1, h2, h3⟩
theorem reprL_bytes {K : Nat → Prop} {hp : Nat → Option Obj} : ∀ s : List UInt8, ReprL K hp (s.map fun b => D.v (.int .u8 b.toNat)) (s.map fun b => Value.int .u8 b.toNat)
  | [] => .nil
  | _ :: r => .cons (.v rfl) (reprL_bytes r)
/-- The bytes of a text that is data. -/
theorem bytes_def {c t u e : Nat} {x : AV} {s : List UInt8} (ht : theProg.underlying t = some .string) (hu : theProg.underlying u = some (.slice e)) (he : theProg.underlying e = some (.int .u8)) (hd : IsD ρ δ x (.v (.string ⟨s.toArray⟩))) (hc : δ c = .sl s.length (s.map fun b => .v (.int .u8 b.toNat))) : DefOk tabs ρ δ ⟨effBase + 0, [t, u], [x], .opq c⟩ := by
  refine effOk (by decide) fun K w vs hK hv => ?_
  cases hv with
  | cons h t' =>
    cases t'
    have h2 := hd.to h
    cases h2 with
    | v _ =>
      have hrun := run_bytes_of_string (P := theProg) w t u e ⟨s.toArray⟩ ht hu he
      have hsz : (ByteArray.mk s.toArray).size = s.length := by simp [ByteArray.size]
      have hge := grownCap_ge w s.length 0 e
      rw [hsz] at hrun
      have hrow : (bytesRow ⟨s.toArray⟩ (grownCap w s.length 0 e)).toList = (s.map fun b => Value.int .u8 b.toNat) ++ List.replicate (grownCap w s.length 0 e - s.length) (.int .u8 0) := by
        simp [bytesRow, hsz]
      refine ⟨_, _, _, rfl, hrun, ?_, ?_⟩
      · exact (Below.refl _ _).drew.alloc (Nat.le_refl _) _
      · refine .opq ?_
        rw [show (pureEnv ρ δ (fun b => K b ∨ (w.heap.size ≤ b ∧ b < (w.drew.alloc (.cells (bytesRow ⟨s.toArray⟩ (grownCap w s.length 0 e)) e ((bytesRow ⟨s.toArray⟩ (grownCap w s.length 0 e)).size, (bytesRow ⟨s.toArray⟩ (grownCap w s.length 0 e)).size + 1))).heap.size)) fun b => (w.drew.alloc (.cells (bytesRow ⟨s.toArray⟩ (grownCap w s.length 0 e)) e ((bytesRow ⟨s.toArray⟩ (grownCap w s.length 0 e)).size, (bytesRow ⟨s.toArray⟩ (grownCap w s.length 0 e)).size + 1))).heap[b]?).δ c = δ c from rfl, hc]
        refine .sl (b := w.heap.size) (off := 0) (z := 1) (us := s.map fun b => Value.int .u8 b.toNat) (.inr ⟨Nat.le_refl _, ?_⟩) (show (w.heap.push _)[w.heap.size]? = some _ from Array.getElem?_push_size) (by simp) hge (fun j u hj => ?_) (reprL_bytes s)
        · show w.heap.size < (w.heap.push _).size
          simp
        · rw [← Array.getElem?_toList, hrow, Nat.zero_add, List.getElem?_append_left (List.getElem?_eq_some_iff.1 hj).1]
          exact hj
theorem len_def {k t z n : Nat} {l : List D} {res : AV} (ht : sliceT theProg t z = true) (hd : δ k = .sl n l) (hr : IsD ρ δ res (.v (.int .i64 (n : Int)))) : DefOk tabs ρ δ ⟨opBase + 9, [t], [.opq k], res⟩ := by
  obtain ⟨e, hu, _, _⟩ := sliceT_ok ht
  refine opOk (by decide) fun K w vs hK hv => ?_
  cases hv with
  | cons h t' =>
    cases t'
    refine ⟨_, .int .i64 (n : Int), rfl, ?_, hr.fro (.v rfl)⟩
    cases h with
    | opq h =>
      rw [show (pureEnv ρ δ K fun b => w.heap[b]?).δ k = δ k from rfl, hd] at h
      cases h <;> simp [Builtin.len_, und_run hu, goInt]
theorem indexAddr_def {k t z n : Nat} {l : List D} {i : AV} {e : SE} {q : IntKind} (ht : sliceT theProg t z = true) (hd : δ k = .sl n l) (hl : l.length = n * z) (hi : IsD ρ δ i (.v (.int q (e.val ρ)))) (h0 : 0 ≤ e.val ρ) (h1 : e.val ρ < (n : Int)) : DefOk tabs ρ δ ⟨opBase + 2, [t], [.opq k, i], .optr k e 0⟩ := by
  obtain ⟨et, hu, hz, hpos⟩ := sliceT_ok ht
  refine opOk (by decide) fun K w vs hK hv => ?_
  cases hv with
  | cons h t' =>
    cases t' with
    | cons h' t'' =>
      cases t''
      have hi' := hi.to h'
      have hi2 : ∀ {v : Value}, Repr K (fun b => w.heap[b]?) (.v (.int q (e.val ρ))) v → v = .int q (e.val ρ) := fun h => by cases h; rfl
      rw [hi2 hi']
      obtain ⟨N, hN⟩ := Int.eq_ofNat_of_zero_le h0
      have hlt : N < n := by omega
      cases h with
      | opq h =>
        rw [show (pureEnv ρ δ K fun b => w.heap[b]?).δ k = δ k from rfl, hd] at h
        cases h with
        | nil => omega
        | @sl _ z' b off cap _ us c et' f hb hh hn hc hx hrl =>
          refine ⟨_, .pointer (some ⟨b, off + N * z + 0, none⟩), rfl, ?_, .optr ⟨n, z, l, us, b, off, c, et', f, N, hd, hb, hh, ?_, hx, hrl, hN, hlt, hpos, rfl⟩⟩
          · have hlt' : (N : Int) < (n : Int) := by omega
            rw [hN]
            simp [Instr.indexAt, asIntOf, und_run hu, hlt', hlt, szOf_run hz, addr_add]
          · rw [reprL_len hrl]; exact hl
/-- A field's place. -/
noncomputable def fieldT (P : Program) (t f off : Nat) : Bool := match P.underlying t with
  | some (.struct fs) => (match nth fs.toList f with
    | some fd => Nat.beq fd.offset off && (match szOf P fd.type with
      | some (_ + 1) => true
      | _ => false)
    | none => false)
  | _ => false
theorem fieldAddr_def {k t f off z n o : Nat} {l : List D} {e : SE} (ht : fieldT theProg t f off = true) (hd : δ k = .sl n l) (hl : l.length = n * z) (ho : o + off < z) : DefOk tabs ρ δ ⟨opBase + 10, [t, f], [.optr k e o], .optr k e (o + off)⟩ := by
  unfold fieldT at ht
  split at ht
  · rename_i fs hu
    split at ht
    · rename_i fd hf
      rw [nth_get, Array.getElem?_toList] at hf
      rw [Bool.and_eq_true] at ht
      obtain ⟨h1, h2⟩ := ht
      obtain rfl := Nat.eq_of_beq_eq_true h1
      split at h2
      · rename_i m hm
        refine opOk (by decide) fun K w vs hK hv => ?_
        cases hv with
        | cons h t' =>
          cases t'
          cases h with
          | optr h =>
            obtain ⟨n', z', l', us, b, off', c, et, f', N, g1, g2, g3, g4, g5, g6, g7, g8, g9, rfl⟩ := h
            rw [show (pureEnv ρ δ K fun b => w.heap[b]?).δ k = δ k from rfl, hd] at g1
            cases g1
            have hz : z' = z := by
              have h3 := reprL_len g6
              rw [g4, hl] at h3
              exact Nat.eq_of_mul_eq_mul_left (by omega) h3
            subst hz
            refine ⟨_, .pointer (some ⟨b, off' + N * z' + (o + fd.offset), none⟩), rfl, ?_, .optr ⟨n, z', l, us, b, off', c, et, f', N, hd, g2, g3, g4, g5, g6, g7, g8, ho, rfl⟩⟩
            simp [Instr.fieldAt, und_run hu, hf, Instr.sureAddr, fieldPlace, szOf_run hm, addr_add, Nat.add_assoc]
      · cases h2
    · cases ht
  · cases ht
/-- A type of cells together, or of one. -/
noncomputable def aggT (P : Program) (t : Nat) (b : Bool) (m : Nat) : Bool := match isAggB P t with
  | some true => b && (match szOf P t with
    | some n => Nat.beq n m
    | none => false)
  | some false => !b && Nat.beq m (nat_lit 1)
  | none => false
theorem reprL_drop {K : Nat → Prop} {hp : Nat → Option Obj} {n : Nat} : ∀ {l : List D} {us : List Value}, ReprL K hp l us → ReprL K hp (l.drop n) (us.drop n) := by
  induction n with
  | zero => intro l us h; exact h
  | succ n ih =>
    intro l us h
    cases h with
    | nil => exact .nil
    | cons _ t => exact ih t
theorem reprL_take {K : Nat → Prop} {hp : Nat → Option Obj} {n : Nat} : ∀ {l : List D} {us : List Value}, ReprL K hp l us → ReprL K hp (l.take n) (us.take n) := by
  induction n with
  | zero => intro l us _; exact .nil
  | succ n ih =>
    intro l us h
    cases h with
    | nil => exact .nil
    | cons k t => exact .cons k (ih t)
/-- The first of them. -/
noncomputable def firstA : List AV → AV
  | [] => .nilptr
  | x :: _ => x
/-- What a load comes to. -/
noncomputable def loadR (g : Bool) (cs : List AV) : AV := match g with
  | true => .agg cs
  | false => firstA cs
/-- The cells of an element, told. -/
theorem load_def {k t m z n o : Nat} {g : Bool} {l : List D} {e : SE} {cs : List AV} {N : Nat} (ht : aggT theProg t g m = true) (hd : δ k = .sl n l) (hl : l.length = n * z) (hN : e.val ρ = ((N : Nat) : Int)) (hc : IsDL ρ δ cs ((l.drop (N * z + o)).take m)) (hm : cs.length = m) :
    DefOk tabs ρ δ ⟨opBase + 1, [t], [.optr k e o], loadR g cs⟩ := by
  refine opOk (by decide) fun K w vs hK hv => ?_
  cases hv with
  | cons h t' =>
    cases t'
    cases h with
    | optr h =>
      obtain ⟨n', z', l', us, b, off', c, et, f', N', g1, g2, g3, g4, g5, g6, g7, g8, g9, rfl⟩ := h
      rw [show (pureEnv ρ δ K fun b => w.heap[b]?).δ k = δ k from rfl, hd] at g1
      cases g1
      have hz : z' = z := by
        have h3 := reprL_len g6
        rw [g4, hl] at h3
        exact Nat.eq_of_mul_eq_mul_left (by omega) h3
      subst hz
      have hNN : N' = N := by
        have : e.val ρ = ((N' : Nat) : Int) := g7
        omega
      subst hNN
      have hseg : ReprL K (fun b => w.heap[b]?) ((l.drop (N' * z' + o)).take m) ((us.drop (N' * z' + o)).take m) := reprL_take (reprL_drop g6)
      have hrel : RelL (pureEnv ρ δ K fun b => w.heap[b]?) cs ((us.drop (N' * z' + o)).take m) := hc.fro hseg
      have hlen : ((us.drop (N' * z' + o)).take m).length = m := by rw [relL_len hrel, hm]
      have hcell : ∀ j v, ((us.drop (N' * z' + o)).take m)[j]? = some v → w.cell? ⟨b, off' + N' * z' + o + j, none⟩ = some v := by
        intro j v hj
        rw [List.getElem?_take] at hj
        split at hj
        · rw [List.getElem?_drop] at hj
          have h4 := g5 _ _ hj
          rw [show off' + (N' * z' + o + j) = off' + N' * z' + o + j by omega] at h4
          have g3' : w.heap[b]? = some (.cells c et f') := g3
          simp [World.cell?, g3', h4]
        · cases hj
      unfold aggT at ht
      split at ht
      · rename_i hg
        rw [Bool.and_eq_true] at ht
        obtain ⟨h5, h6⟩ := ht
        cases g with
        | false => cases h5
        | true =>
          split at h6
          · rename_i n2 hn2
            obtain rfl := Nat.eq_of_beq_eq_true h6
            refine ⟨_, .agg ((us.drop (N' * z' + o)).take n2).toArray, rfl, ?_, .agg (by simpa using hrel)⟩
            simp [Instr.loadAt, Instr.sureAddr, loadVar, isAggB_run hg, szOf_run hn2, run_loadCells_at hcell hlen]
          · cases h6
      · rename_i hg
        rw [Bool.and_eq_true] at ht
        obtain ⟨h5, h6⟩ := ht
        cases g with
        | true => cases h5
        | false =>
          obtain rfl := Nat.eq_of_beq_eq_true h6
          match cs, hm, hrel with
          | [x], _, hrel =>
            generalize hys : ((us.drop (N' * z' + o)).take 1) = ys at hrel hcell
            cases hrel with
            | cons hy ht' =>
              cases ht'
              have := hcell 0 _ rfl
              refine ⟨_, _, rfl, ?_, hy⟩
              simp only [Instr.loadAt, Instr.sureAddr, loadVar, Sem.run_bind, Sem.run_pure, isAggB_run hg, Result.andThen_ok]
              exact run_load_at this
      · cases ht
/-- A piece of a row. -/
theorem piece_def {k c t z n A H : Nat} {l : List D} {lo hi : AV} {q q' : IntKind} (ht : sliceT theProg t z = true) (hd : δ k = .sl n l) (hl : l.length = n * z) (hlo : IsD ρ δ lo (.v (.int q (A : Int)))) (hhi : IsD ρ δ hi (.v (.int q' (H : Int)))) (h1 : A ≤ H) (h2 : H ≤ n)
    (hc : δ c = .sl (H - A) ((l.drop (A * z)).take ((H - A) * z))) : DefOk tabs ρ δ ⟨opBase + 6, [t], [.opq k, lo, hi], .opq c⟩ := by
  obtain ⟨et, hu, hz, hpos⟩ := sliceT_ok ht
  refine opOk (by decide) fun K w vs hK hv => ?_
  cases hv with
  | cons h t' =>
    cases t' with
    | cons h' t'' =>
      cases t'' with
      | cons h'' t3 =>
        cases t3
        have e1 : ∀ {v : Value} {q : IntKind} {x : Int}, Repr K (fun b => w.heap[b]?) (.v (.int q x)) v → v = .int q x := fun h => by cases h; rfl
        rw [e1 (hlo.to h'), e1 (hhi.to h'')]
        cases h with
        | opq h =>
          rw [show (pureEnv ρ δ K fun b => w.heap[b]?).δ k = δ k from rfl, hd] at h
          cases h with
          | nil =>
            obtain rfl : H = 0 := by omega
            obtain rfl : A = 0 := by omega
            refine ⟨_, .slice none 0 0, rfl, ?_, .opq (by rw [show (pureEnv ρ δ K fun b => w.heap[b]?).δ c = δ c from rfl, hc]; simpa using Repr.nil)⟩
            have hb : ∀ (q : IntKind) (y : Nat) (code : BoundsCode), (Instr.sliceBound (.int q 0) y code).run theProg w = .ok 0 w := fun q y code => run_sliceBound q 0 y code (Nat.zero_le _) w
            simp [Instr.sliceAt, Instr.slice, Instr.sliceBounds, hb, und_run hu, szOf_run hz]
          | @sl _ z' b off cap _ us cc et' f hb hh hn hcap hx hrl =>
            have hus : us.length = n * z := by rw [reprL_len hrl]; exact hl
            refine ⟨_, .slice (if cap = A then some ⟨b, off, none⟩ else some ⟨b, off + A * z, none⟩) (H - A) (cap - A), rfl, ?_, .opq ?_⟩
            · simp [Instr.sliceAt, Instr.slice, Instr.sliceBounds, run_sliceBound, und_run hu, szOf_run hz, h1, show H ≤ cap by omega, addr_add]
            · rw [show (pureEnv ρ δ K fun b => w.heap[b]?).δ c = δ c from rfl, hc]
              have hseg : ReprL K (fun b => w.heap[b]?) ((l.drop (A * z)).take ((H - A) * z)) ((us.drop (A * z)).take ((H - A) * z)) := reprL_take (reprL_drop hrl)
              have hlen : ((us.drop (A * z)).take ((H - A) * z)).length = (H - A) * z := by
                rw [List.length_take, List.length_drop, hus, ← Nat.sub_mul]
                exact Nat.min_eq_left (Nat.mul_le_mul_right _ (by omega))
              split
              · obtain rfl : H = A := by omega
                simp only [Nat.sub_self, Nat.zero_mul, List.take_zero]
                exact .sl hb hh (us := []) (z := z) (by simp) (by omega) (fun j u hj => by simp at hj) .nil
              · refine .sl hb hh hlen (by omega) (fun j u hj => ?_) hseg
                rw [List.getElem?_take] at hj
                split at hj
                · rw [List.getElem?_drop] at hj
                  have := hx _ _ hj
                  rwa [show off + (A * z + j) = off + A * z + j by omega] at this
                · cases hj
/-- Two rows of data, told cells between them, are one row. -/
theorem cat_def {z k j c n m N : Nat} {q : IntKind} {e : SE} {l l' ls : List D} {vs : List AV} (hk : δ k = .sl n l) (hj : δ j = .sl m l') (hl : l'.length = m * z) (hs : IsDL ρ δ vs ls) (hc : δ c = .sl N (l ++ (ls ++ l'))) (hN : (l ++ (ls ++ l')).length = N * z) (he : e.val ρ = ((N : Nat) : Int)) :
    DefOk tabs ρ δ ⟨catF, [z, 1, k, j, c], vs, .sint q e⟩ := by
  unfold DefOk
  rw [if_pos rfl]
  exact ⟨n, m, N, l, ls, l', .inr ⟨rfl, hk⟩, hj, hl, hc, hN, he, fun K hp us h => hs.to h⟩
theorem cat0_def {z j m : Nat} {q : IntKind} {e : SE} {l' : List D} (hj : δ j = .sl m l') (hl : l'.length = m * z) (he : e.val ρ = ((m : Nat) : Int)) : DefOk tabs ρ δ ⟨catF, [z, 0, 0, j, j], [], .sint q e⟩ := by
  unfold DefOk
  rw [if_pos rfl]
  exact ⟨0, m, m, [], [], l', .inl ⟨rfl, rfl, rfl⟩, hj, hl, by simpa using hj, by simpa using hl, he, fun K hp us h => by cases h; exact .nil⟩
end
end Ev
end Go.Proofs.YtnjpdipombnigaaGreatDoor
namespace Go.Proofs.YtnjpdipombnigaaGreatDoor
namespace Ev
open Go.RowKit

/-- The ids of a template beside those of a state, found by going through both. -/
noncomputable def mtL (ih : AV → AV → Prs → Prs) : List AV → List AV → Prs → Prs
  | [], _, k => k
  | _ :: _, [], k => k
  | x :: l, y :: m, k => ih x y (mtL ih l m k)
noncomputable def mtV (n : Nat) : AV → AV → Prs → Prs :=
  Nat.rec (motive := fun _ => AV → AV → Prs → Prs) (fun _ _ k => k) (fun _ ih x y k => match x, y with
    | .ptr i _, .ptr j _ => (i, j) :: k
    | .slice i _ _ _ _, .slice j _ _ _ _ => (i, j) :: k
    | .map i, .map j => (i, j) :: k
    | .func _ a b, .func _ d e => mtL ih a d (mtL ih b e k)
    | .iface _ a, .iface _ b => ih a b k
    | .agg a, .agg b => mtL ih a b k
    | .tuple a, .tuple b => mtL ih a b k
    | .rsl i _, .rsl j _ => (i, j) :: k
    | .rsl i _, .slice j _ _ _ _ => (i, j) :: k
    | _, _ => k) n
noncomputable def mtE : List Ent → List Ent → Prs → Prs
  | [], _, k => k
  | _ :: _, [], k => k
  | x :: l, y :: m, k => mtV (nat_lit 40) x.key y.key (mtV (nat_lit 40) x.val y.val (mtE l m k))
noncomputable def mtO (x y : AObj) (k : Prs) : Prs := match x, y with
  | .cells a _ _ _, .cells b _ _ _ => mtL (mtV (nat_lit 40)) a b k
  | .map a _, .map b _ => mtE a b k
  | .umap a _ t, .umap b _ u => (t, u) :: mtE a b k
  | _, _ => k
noncomputable def lookO (i : Nat) : List (Nat × AObj) → Option AObj
  | [] => none
  | p :: r => bi (Nat.beq p.1 i) (some p.2) (lookO i r)
noncomputable def mtAt (x y : Option AObj) (k : Prs) : Prs := match x, y with
  | some x, some y => mtO x y k
  | _, _ => k
noncomputable def autoPs (objs : List (Nat × AObj)) (h : T AObj) (n : Nat) : Prs → Prs → Prs :=
  Nat.rec (motive := fun _ => Prs → Prs → Prs) (fun _ acc => acc) (fun _ ih todo acc => match todo with
    | [] => acc
    | p :: r => bi (Nat.blt p.1 (nat_lit 64)) (ih r acc) (match lookP p.1 acc with
      | some _ => ih r acc
      | none => ih (mtAt (lookO p.1 objs) (h.get p.2) r) (p :: acc))) n
noncomputable def mtT (a : T AV) : List (Nat × AV) → Prs
  | [] => []
  | p :: r => match a.get p.1 with
    | some y => mtV (nat_lit 40) p.2 y (mtT a r)
    | none => mtT a r
/-- How a template is told: its variables, its text, its data; the ids are found. -/
structure How where
  vs : List (Nat × SE)
  str : Option (Nat × Nat × Nat × List Pc)
  ds : List (Nat × DT)
noncomputable def How.inst (H : How) (fr : Fr) (s : St) (t : Tm) : Inst := ⟨H.vs, autoPs t.objs s.h (nat_lit 3000) (mtT fr.a t.frl) [], H.str, H.ds⟩
noncomputable def How.ρ (H : How) (ρ : Nat → Int) : Nat → Int := instρ ⟨H.vs, [], H.str, []⟩ ρ
noncomputable def How.δ (H : How) (ρ : Nat → Int) (δ : Nat → D) : Nat → D := fun k => match lookDT k H.ds with | some t => dtV ρ δ t | none => δ k
theorem How.ρ_at {H : How} {ρ : Nat → Int} {k : Nat} (h : k < 1000) : H.ρ ρ k = (lookE k H.vs).val ρ := instρ_small _ ρ k h
/-- The whole look at a part's end, the ids found. -/
noncomputable def autoChk (x : Option (Fr × St)) (H : How) (tabs : List (Nat × List AV)) (t : Tm) : Bool := match x with
  | some (fr, s) => endChk (some (fr, s)) (H.inst fr s t) tabs t.c t.objs t.fs t.frl
  | none => false
noncomputable def wayAuto (x : C) (want : AX → Bool) (H : How) (tabs : List (Nat × List AV)) (t : Tm) : Bool := match x with
  | some [(e, fr, s)] => want e && autoChk (some (fr, s)) H tabs t
  | _ => false
noncomputable def isAX (e : AX) : AX → Bool := fun a => match a, e with
  | .normal, .normal => true
  | .exit i, .exit j => Nat.beq i j
  | .ret, .ret => true
  | _, _ => false
theorem isAX_ok {e a : AX} (h : isAX e a = true) : a = e := by
  cases a <;> cases e <;> first | rfl | (cases h; done) | (rw [Nat.eq_of_beq_eq_true h])
section
variable {tabs : List (Nat × List AV)} {fl : List FuncId} {n nt : Nat} {x : Code} {t t' : Tm} {fs : List Fact} {ds : List Def} {H : How} {ρ : Nat → Int} {δ : Nat → D}
/-- Facts are told of what stands for the names. -/
theorem inS_facts {K0 : Nat → Prop} {w0 w : World} {ac : Act} (hf : ∀ f ∈ fs, f.holds ρ) (h : InS tabs K0 w0 ρ δ nt t ac w) : InS tabs K0 w0 ρ δ nt ⟨t.c, t.objs, fs, t.frl⟩ ac w := by
  obtain ⟨E, rfl, rfl, hs, hr, hk, hk2, hb⟩ := h
  have ho := orcI_ok hf
  exact ⟨E, rfl, rfl, ⟨hs.inj, hs.lt, hs.base, hs.glob, hs.fresh, hs.fact, ⟨ho.eq, ho.lt, ho.small, ho.wrap, ho.bin⟩, hs.prot, hs.defs⟩, hr, hk, hk2, hb⟩
/-- Slots told otherwise. -/
theorem inS_slots {K0 : Nat → Prop} {w0 w : World} {ac : Act} {l' : List (Nat × AV)} (h : ∀ p ∈ l', ∃ X, (putsT t.frl).get p.1 = some X ∧ ∀ (E : Env) v, E.ρ = ρ → E.δ = δ → Rel E X v → Rel E p.2 v) (hin : InS tabs K0 w0 ρ δ nt t ac w) :
    InS tabs K0 w0 ρ δ nt ⟨t.c, t.objs, t.fs, l'⟩ ac w := by
  obtain ⟨E, h1, h2, hs, hf, hk, hk2, hb⟩ := hin
  refine ⟨E, h1, h2, hs, ⟨⟨hf.1.1, fun t v hv => ?_⟩, hf.2⟩, hk, hk2, hb⟩
  obtain ⟨X, k1, k2⟩ := h _ (putsT_get hv)
  obtain ⟨x, k3, k4⟩ := hf.1.2 t X k1
  exact ⟨x, k3, k2 E _ h1 h2 k4⟩
theorem goD_slots {fn : Func} {r : DV} {l' : List (Nat × AV)} (h : ∀ p ∈ l', ∃ X, (putsT t.frl).get p.1 = some X ∧ ∀ (E : Env) v, E.ρ = ρ → E.δ = δ → Rel E X v → Rel E p.2 v) (hg : GoD tabs fn x ⟨t.c, t.objs, t.fs, l'⟩ ρ δ r) : GoD tabs fn x t ρ δ r :=
  fun hin hR => hg (inS_slots h hin) hR
theorem in_next {K0 : Nat → Prop} {w0 w w' : World} {ac' : Act} {E E' : Env} {fr' : Fr} {s' : St} {W : Nat} (hend : autoChk (some (fr', s')) H tabs t' = true) (hk : ∀ b, K0 b → E.K b) (hk2 : ∀ b, E.K b → K0 b ∨ w0.heap.size ≤ b) (hb : Below w0.heap.size w0 w) (hf' : FRel E' nt fr' ac') (hs' : Sat (fun _ => True) w0.heap.size E' s' w')
    (hx' : Ext w0.heap.size W E E' w w') : InS tabs K0 w0 (H.ρ E.ρ) (H.δ E.ρ E.δ) nt t' ac' w' := by
  obtain ⟨fr1, s1, he, k2, k3, k4, k5⟩ := endChk_ok (show endChk (some (fr', s')) (H.inst fr' s' t') tabs t'.c t'.objs t'.fs t'.frl = true from hend)
  cases he
  refine ⟨instEnv (H.inst fr' s' t') E', ?_, ?_, inst_ok hs' k3 k4, ⟨instT_ok hs'.orc (instChk_str k4) k5 hf'.1, by rw [relM_of hf'.2 k2]; exact .nil⟩, fun b hb => hx'.le.K b (hk b hb), fun b hb => ?_, hb.trans hx'.below⟩
  · show instρ (H.inst fr' s' t') E'.ρ = _
    rw [hx'.le.ρ]
    rfl
  · show (fun k => match lookDT k H.ds with | some t => dtV E'.ρ E'.δ t | none => E'.δ k) = _
    rw [hx'.le.ρ, hx'.le.δ]
    rfl
  · rcases hx'.kn b hb with h3 | h3
    · exact hk2 b h3
    · exact .inr h3
/-- A part, by a run: one way, of that end, to that template. -/
theorem leads_go {e : AX} (hmix : theProg.follows .mixedOrders = true) (hnames : (theProg.funcs.toList.all fun fn => fn.name != "runtime.NumGoroutine") = true)
    (hrun : wayAuto ((ev theProg (ctrL theProg fl) n).code nt none x t.fr ((Tm.mk t.c t.objs fs t.frl).stD tabs ds)) (isAX e) H tabs t' = true) (hf : ∀ f ∈ fs, f.holds ρ) (hd : ∀ d ∈ ds, DefOk tabs ρ δ d) :
    Leads tabs nt x t ρ δ e.out t' (H.ρ ρ) (H.δ ρ δ) := by
  intro K0 w0 ac w Q hin hQ
  obtain ⟨E, rfl, rfl, hs, hr, hk, hk2, hb⟩ := inS_facts hf hin
  unfold wayAuto at hrun
  split at hrun
  case h_2 => cases hrun
  rename_i e1 fr s hx
  rw [Bool.and_eq_true] at hrun
  obtain ⟨h1, h2⟩ := hrun
  have he1 := isAX_ok h1
  subst he1
  have hev := ev_ok hmix (ctrL_ok fl) (names_of hnames) n
  obtain ⟨_, _, p2⟩ := hev.code hx
  refine (p2 (rb := none) (fun _ _ _ _ => trivial) (satTold hs hd) hr rfl fun b hb' E' ac' w' hf' hs' hx' => ?_).1
  rw [List.mem_singleton] at hb'
  subst hb'
  exact hQ ac' w' (in_next h2 hk hk2 hb hf' hs' hx')
/-- So many statements. -/
theorem goD_run {fn : Func} {k : Nat} {r : DV} (hmix : theProg.follows .mixedOrders = true) (hnames : (theProg.funcs.toList.all fun fn => fn.name != "runtime.NumGoroutine") = true)
    (hrun : autoChk (runK (ev theProg (ctrL theProg fl) n) fn.ntmps k x t.fr ((Tm.mk t.c t.objs fs t.frl).stD tabs ds)) H tabs t' = true) (hf : ∀ f ∈ fs, f.holds ρ) (hd : ∀ d ∈ ds, DefOk tabs ρ δ d) (hg : GoD tabs fn (dropK k x) t' (H.ρ ρ) (H.δ ρ δ) r) : GoD tabs fn x t ρ δ r := by
  intro K0 w0 ac w R hin hR
  obtain ⟨E, rfl, rfl, hs, hr, hk, hk2, hb⟩ := inS_facts hf hin
  unfold autoChk at hrun
  split at hrun
  case h_2 => cases hrun
  rename_i fr s hx
  have hev := ev_ok hmix (ctrL_ok fl) (names_of hnames) n
  obtain ⟨_, q2⟩ := runK_ok hev k hx
  exact q2 (fun _ _ => trivial) (satTold hs hd) hr fun E' ac' w' hf' hs' hx' => hg (in_next (show autoChk (some (fr, s)) H tabs t' = true from hrun) hk hk2 hb hf' hs' hx') hR
/-- The last part. -/
theorem goD_fin {fn : Func} {m : Nat} {res : AV} {r : DV} (hmix : theProg.follows .mixedOrders = true) (hnames : (theProg.funcs.toList.all fun fn => fn.name != "runtime.NumGoroutine") = true)
    (hrun : retD theProg res (topS theProg (ev theProg (ctrL theProg fl) n) fn ((Tm.mk t.c t.objs fs t.frl).stD tabs ds) m x [(.normal, t.fr, (Tm.mk t.c t.objs fs t.frl).stD tabs ds)]) = true) (hf : ∀ f ∈ fs, f.holds ρ) (hd : ∀ d ∈ ds, DefOk tabs ρ δ d) (hr : IsV ρ δ res r) : GoD tabs fn x t ρ δ r :=
  fun hin hR => goD_end (t := Tm.mk t.c t.objs fs t.frl) hmix hnames hrun hd hr (inS_facts hf hin) hR
/-- Given back, out of a loop. -/
def RetD (tabs : List (Nat × List AV)) (fn : Func) (z : RState) (r : DV) : Prop := ∃ res, retD theProg res (finB theProg fn z.t.fr (z.t.st tabs)) = true ∧ IsV z.ρ z.δ res r
theorem retD_ok {fn : Func} {z : RState} {r : DV} (h : RetD tabs fn z r) {K0 : Nat → Prop} {w0 w : World} {ac : Act} {R : Ending → World → Prop} (hin : InS tabs K0 w0 z.ρ z.δ fn.ntmps z.t ac w)
    (hR : ∀ u w', Below w0.heap.size w0 w' → ReprV (fun b => K0 b ∨ (w0.heap.size ≤ b ∧ b < w'.heap.size)) (fun b => w'.heap[b]?) r u → R (.returned u) w') : bodyPostM Fence.wide 0 theProg fn R .ret ac w := by
  obtain ⟨t, ρ, δ⟩ := z
  obtain ⟨res, hrun, hr⟩ := h
  obtain ⟨E, rfl, rfl, hs, hf, hk, hk2, hb⟩ := hin
  obtain ⟨v, s', v2, s2, h1, h2, h3⟩ := retD_some hrun
  obtain ⟨_, p3⟩ := finB_ok (P := theProg) h1
  refine p3 (fun _ _ => trivial) hs hf fun u w' hu hs' hx => ?_
  obtain ⟨qs, q2⟩ := packV_ok (P := theProg) 40 h2
  obtain ⟨E2, m1, m2, m3⟩ := q2 (fun _ _ => trivial) hs' hu
  have hx2 := hx.trans m2 qs.w
  refine hR u w' (hb.trans hx2.below) ?_
  have h4 : Rel (pureEnv E.ρ E.δ E2.K fun b => w'.heap[b]?) res u := symV_ok (E := E2) (F := pureEnv E.ρ E.δ E2.K fun b => w'.heap[b]?) ⟨hx2.le.ρ.symm, hx2.le.δ.symm, fun _ h => h, fun b hk => (m1.prot b hk).2.1⟩ 40 _ _ _ h3 m3
  refine (hr.to h4).mono (fun b hb => ?_) (fun _ _ => rfl)
  rcases hx2.kn b hb with h5 | h5
  · rcases hk2 b h5 with h6 | h6
    · exact .inl h6
    · exact .inr ⟨h6, (m1.prot b hb).1⟩
  · exact .inr ⟨h5, (m1.prot b hb).1⟩
/-- A statement, and what stands behind it. -/
def GoS (tabs : List (Nat × List AV)) (fn : Func) (b y : Code) (t : Tm) (ρ : Nat → Int) (δ : Nat → D) (r : DV) : Prop :=
  ∀ {K0 : Nat → Prop} {w0 : World} {ac : Act} {w : World} {R : Ending → World → Prop}, InS tabs K0 w0 ρ δ fn.ntmps t ac w → (∀ u w', Below w0.heap.size w0 w' → ReprV (fun b => K0 b ∨ (w0.heap.size ≤ b ∧ b < w'.heap.size)) (fun b => w'.heap[b]?) r u → R (.returned u) w') →
    b.wpIn Fence.wide 0 theProg (Exit.then (y.wpIn Fence.wide 0 theProg (bodyPostM Fence.wide 0 theProg fn R)) (bodyPostM Fence.wide 0 theProg fn R)) ac w
theorem goD_of {fn : Func} {b y : Code} {r : DV} (h : GoS tabs fn b y t ρ δ r) : GoD tabs fn (.seq b y) t ρ δ r := fun hin hR => wpIn_seq (h hin hR)
/-- A part of a statement. -/
theorem goS_pre {fn : Func} {a b y : Code} {ρ' : Nat → Int} {δ' : Nat → D} {r : DV} (h : Leads tabs fn.ntmps a t ρ δ .normal t' ρ' δ') (hg : GoS tabs fn b y t' ρ' δ' r) : GoS tabs fn (.seq a b) y t ρ δ r :=
  fun hin hR => wpIn_seq (h hin fun _ _ h1 => hg h1 hR)
/-- A call's contract, where its arguments are told. -/
theorem calls_run {K : Nat → Prop} {w : World} {vs : Array Value} {f : FuncId} {c : Nat} {args : List AV} {res : AV} {r : DV} (hmix : theProg.follows .mixedOrders = true) (hnames : (theProg.funcs.toList.all fun fn => fn.name != "runtime.NumGoroutine") = true) (hc : 64 ≤ c)
    (hrun : retD theProg res ((ev theProg (ctrL theProg fl) n).call f args (startD c tabs fs ds)) = true) (hf : ∀ f ∈ fs, f.holds ρ) (hd : ∀ d ∈ ds, DefOk tabs ρ δ d) (hK : ∀ b, K b → b < w.heap.size) (ht : TabsIn w tabs) (ha : RelL (pureEnv ρ δ K fun b => w.heap[b]?) args vs.toList) (hr : IsV ρ δ res r) :
    Calls theProg f vs w fun e w' => ∃ u, e = .returned u ∧ Below w.heap.size w w' ∧ ReprV (fun b => K b ∨ (w.heap.size ≤ b ∧ b < w'.heap.size)) (fun b => w'.heap[b]?) r u := by
  obtain ⟨v, s, v', s', h1, h2, h3⟩ := retD_some hrun
  have hs := satD (K := K) ht hf hd hK hc
  have hargs : RelL (envD ρ δ K (fun b => w.heap[b]?) tabs) args vs.toList := pure_relL (F := envD ρ δ K (fun b => w.heap[b]?) tabs) ⟨rfl, rfl, fun _ h => h, fun _ _ => rfl⟩ ha
  have hcall := ((ev_ok hmix (ctrL_ok fl) (names_of hnames) n).call h1).2 (fun _ _ => trivial) hs hargs
  refine (callsIn_wide.1 hcall.2).mono ?_
  rintro e w' ⟨E', u, rfl, hu, hs', hx⟩
  obtain ⟨_, q2⟩ := packV_ok (P := theProg) 40 h2
  obtain ⟨E2, m1, m2, m3⟩ := q2 (fun _ _ => trivial) hs' hu
  refine ⟨u, rfl, hx.below, ?_⟩
  obtain ⟨qs, _⟩ := packV_ok (P := theProg) 40 h2
  have hx2 := hx.trans m2 qs.w
  have h4 : Rel (pureEnv ρ δ E2.K fun b => w'.heap[b]?) res u := symV_ok (E := E2) (F := pureEnv ρ δ E2.K fun b => w'.heap[b]?) ⟨hx2.le.ρ.symm, hx2.le.δ.symm, fun _ h => h, fun b hk => (m1.prot b hk).2.1⟩ 40 _ _ _ h3 m3
  refine (hr.to h4).mono (fun b hb => ?_) (fun _ _ => rfl)
  rcases hx2.kn b hb with h5 | h5
  · exact .inl h5
  · exact .inr ⟨h5, (m1.prot b hb).1⟩
/-- A statement that is a loop, with what stands ahead of it: its rounds are shown one by one, a measure falls; a round may end the body. -/
theorem goS_loop {fn : Func} {y : Code} {id : Nat} {r : DV} {A : RState → Prop} {μ : RState → Nat}
    (hstep : ∀ σ, A σ → (∃ σ', A σ' ∧ μ σ' < μ σ ∧ Leads tabs fn.ntmps x σ.t σ.ρ σ.δ .normal σ'.t σ'.ρ σ'.δ) ∨ (∃ z : RState, Leads tabs fn.ntmps x σ.t σ.ρ σ.δ (.exit id) z.t z.ρ z.δ ∧ GoD tabs fn y z.t z.ρ z.δ r) ∨ (∃ z : RState, Leads tabs fn.ntmps x σ.t σ.ρ σ.δ .ret z.t z.ρ z.δ ∧ RetD tabs fn z r)) :
    ∀ σ, A σ → GoS tabs fn (.block id (.loop x)) y σ.t σ.ρ σ.δ r := by
  intro σ hA K0 w0 ac w R hin hR
  refine wpIn_block ?_
  have key : ∀ (m : Nat) (σ : RState), μ σ < m → A σ → ∀ {ac : Act} {w : World}, InS tabs K0 w0 σ.ρ σ.δ fn.ntmps σ.t ac w → Code.roundsIn Fence.wide 0 theProg x (Exit.inBlock id (Exit.then (y.wpIn Fence.wide 0 theProg (bodyPostM Fence.wide 0 theProg fn R)) (bodyPostM Fence.wide 0 theProg fn R))) m ac w := by
    intro m
    induction m with
    | zero => intro σ h; omega
    | succ m ih =>
      intro σ hm hA ac w hin
      rcases hstep σ hA with ⟨σ', h1, h2, h4⟩ | ⟨z, h1, h2⟩ | ⟨z, h1, h2⟩
      · exact h4 hin fun ac' w' hin' => ih σ' (by omega) h1 hin'
      · refine h1 hin fun ac' w' hin' => ?_
        show Exit.inBlock id _ (.exit id) ac' w'
        simp only [Exit.inBlock, if_true]
        exact h2 hin' hR
      · refine h1 hin fun ac' w' hin' => ?_
        exact retD_ok h2 hin' hR
  exact wpIn_loop_rounds (μ σ + 1) (key _ σ (by omega) hA hin)
end
section
variable {ρ : Nat → Int} {a b : SE}
/-- Facts, as they are told. -/
theorem fLt (h : a.val ρ < b.val ρ) : (Fact.mk true a b true).holds ρ := by unfold Fact.holds; simp [h]
theorem fGe (h : b.val ρ ≤ a.val ρ) : (Fact.mk true a b false).holds ρ := by unfold Fact.holds; simp; omega
theorem fEq (h : a.val ρ = b.val ρ) : (Fact.mk false a b true).holds ρ := by unfold Fact.holds; simp [h]
theorem fNe (h : a.val ρ ≠ b.val ρ) : (Fact.mk false a b false).holds ρ := by unfold Fact.holds; simp [h]
theorem fNil : ∀ f ∈ ([] : List Fact), f.holds ρ := fun _ h => by cases h
theorem fCons {f : Fact} {l : List Fact} (h : f.holds ρ) (t : ∀ g ∈ l, g.holds ρ) : ∀ g ∈ f :: l, g.holds ρ := fun g hg => by
  rcases List.mem_cons.1 hg with rfl | hg
  · exact h
  · exact t g hg
variable {δ : Nat → D} {tabs : List (Nat × List AV)}
theorem dNil : ∀ d ∈ ([] : List Def), DefOk tabs ρ δ d := fun _ h => by cases h
theorem dCons {d : Def} {l : List Def} (h : DefOk tabs ρ δ d) (t : ∀ g ∈ l, DefOk tabs ρ δ g) : ∀ g ∈ d :: l, DefOk tabs ρ δ g := fun g hg => by
  rcases List.mem_cons.1 hg with rfl | hg
  · exact h
  · exact t g hg
theorem dApp {l m : List Def} (h : ∀ g ∈ l, DefOk tabs ρ δ g) (t : ∀ g ∈ m, DefOk tabs ρ δ g) : ∀ g ∈ l ++ m, DefOk tabs ρ δ g := fun g hg => by
  rcases List.mem_append.1 hg with hg | hg
  · exact h g hg
  · exact t g hg
/-- Texts alike. -/
theorem eqTx_def {t : Nat} {x y : AV} {s u : List UInt8} {b : Bool} (hx : IsD ρ δ x (.v (.string ⟨s.toArray⟩))) (hy : IsD ρ δ y (.v (.string ⟨u.toArray⟩))) (hb : b = decide (s = u)) : DefOk tabs ρ δ ⟨opBase + 22, [t], [x, y], .bool b⟩ := by
  refine opOk (by decide) fun K w vs hK hv => ?_
  cases hv with
  | cons h t' =>
    cases t' with
    | cons h' t'' =>
      cases t''
      have h1 := hx.to h
      have h2 := hy.to h'
      cases h1
      cases h2
      refine ⟨_, .bool b, rfl, ?_, .bool b⟩
      subst hb
      have h1 : (s == u) = decide (s = u) := by
        by_cases h : s = u <;> simp [h]
      simp [binOp, Op.stringOp, h1]
/-- A text's length. -/
theorem lenTx_def {t : Nat} {x : AV} {s : List UInt8} {res : AV} (ht : theProg.underlying t = some .string) (hx : IsD ρ δ x (.v (.string ⟨s.toArray⟩))) (hr : IsD ρ δ res (.v (.int .i64 (s.length : Int)))) : DefOk tabs ρ δ ⟨opBase + 9, [t], [x], res⟩ := by
  refine opOk (by decide) fun K w vs hK hv => ?_
  cases hv with
  | cons h t' =>
    cases t'
    have h1 := hx.to h
    cases h1
    refine ⟨_, .int .i64 (s.length : Int), rfl, ?_, hr.fro (.v rfl)⟩
    have hsz : (ByteArray.mk s.toArray).size = s.length := by simp [ByteArray.size]
    simp [Builtin.len_, und_run ht, goInt, hsz]
/-- A told row's length. -/
theorem lenPsl_def {t z n : Nat} {l : List AV} (ht : sliceT theProg t z = true) : DefOk tabs ρ δ ⟨opBase + 9, [t], [.psl n l], .int .i64 (n : Int)⟩ := by
  obtain ⟨e, hu, _, _⟩ := sliceT_ok ht
  refine opOk (by decide) fun K w vs hK hv => ?_
  cases hv with
  | cons h t' =>
    cases t'
    refine ⟨_, .int .i64 (n : Int), rfl, ?_, .int _ _⟩
    cases h <;> simp [Builtin.len_, und_run hu, goInt]
end
end Ev
end Go.Proofs.YtnjpdipombnigaaGreatDoor
