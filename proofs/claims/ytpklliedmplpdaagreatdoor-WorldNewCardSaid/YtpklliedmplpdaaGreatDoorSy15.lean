/-
  The evaluator: ranges over maps and texts; len, cap, clear.
-/
import Derived.Test.YtpklliedmplpdaaGreatDoorSy14
namespace Go.Proofs.YtpklliedmplpdaaGreatDoor
namespace Ev
open Go.RowKit

section
variable {P : Program} {G : Nat → Prop} {B : Nat} {E : Env} {s s' : St} {w : World} {v : AV}

theorem rangeA_ok {t : TypeId} {x : AV} (h : rangeA P t x s = some (v, s')) :
    Step s s' ∧ ∀ {G B E w x'}, (∀ j, In s'.l j → G j) → Sat G B E s w → Rel E x x' → Ok1 P G B s' v E w (Instr.range t x') := by
  unfold rangeA at h
  split at h
  · rename_i hu
    split at h
    · rename_i l
      cases h
      refine ⟨Step.new _ _, fun {G B E w x'} hG hs hx => ?_⟩
      cases hx
      obtain ⟨k1, k2⟩ := hs.new (o := .siter l 0) (ob := .stringIter ⟨l.toArray⟩ 0) (C := 0) (hG _ (in_new _ _)) rfl rfl
      exact ⟨_, .pointer (some ⟨w.heap.size, 0, none⟩), _, by simp [Instr.range, und_run hu], .ptr (by rw [Env.set_same]; rfl), k1, k2⟩
    · cases h
  · rename_i kt e hu
    split at h
    · cases h
      refine ⟨Step.new _ _, fun {G B E w x'} hG hs hx => ?_⟩
      cases hx
      obtain ⟨k1, k2⟩ := hs.new (o := .iter none 0 [] 0) (ob := .mapIter none 0 #[] 0) (C := 0) (hG _ (in_new _ _)) rfl ⟨none, rfl, rfl⟩
      exact ⟨_, .pointer (some ⟨w.heap.size, 0, none⟩), _, by simp [Instr.range, und_run hu], .ptr (by rw [Env.set_same]; rfl), k1, k2⟩
    · rename_i m
      obtain ⟨o, ho, h1⟩ := oc_some h
      obtain ⟨es, clock, rfl, h2⟩ := mapC_some h1
      cases h2
      refine ⟨(Step.see _ _).trans (Step.new _ _), fun {G B E w x'} hG hs hx => ?_⟩
      have hgm : G m := hG m ((in_lor _ _ _).2 (.inl (in_see _ _)))
      have hgc : G s.c := hG _ (in_new (s.see m) _)
      cases hx
      rename_i b hb
      obtain ⟨C, a, he, hh, hes⟩ := hs.map hgm ho hb
      have hcu := hs.fresh s.c (Nat.le_refl _) hgc
      have hmc : m ≠ s.c := fun e => by rw [e, hcu] at he; cases he
      obtain ⟨k1, k2⟩ := (hs.seen m).new (o := .iter (some m) clock [] clock) (ob := .mapIter (some b) clock #[] clock) (C := 0) hgc rfl ⟨some b, rfl, b, rfl, by
        show (Env.set E s.c _ m).at b
        rw [Env.set_ne _ _ hmc]; exact hb⟩
      have hget := run_getObj_of (P := P) hh (fun _ _ _ e => by cases e)
      exact ⟨_, .pointer (some ⟨w.heap.size, 0, none⟩), _, by simp [Instr.range, und_run hu, hget], .ptr (by show (Env.set E s.c _ s.c).at _; rw [Env.set_same]; rfl), k1, k2⟩
    · cases h
  · cases h

theorem memN_ok (x : Nat) : ∀ (l : List Nat), memN x l = l.contains x
  | [] => rfl
  | y :: l => by
    simp only [memN]
    split
    · rename_i h; have : x = y := by simpa using h
      subst this; simp
    · rename_i h; have : x ≠ y := fun e => by subst e; simp at h
      rw [memN_ok x l]; simp [this]
theorem leftE_ok (seen : List Nat) : ∀ {es : List Ent} {es' : List MapEntry}, RelE E es es' → RelE E (leftE seen es) (es'.filter fun e => !seen.toArray.contains e.born)
  | _, _, .nil => .nil
  | _, _, .cons (x := x) (y := y) h1 h2 h3 t => by
    have ih := leftE_ok seen t
    simp only [leftE, memN_ok]
    split
    · rename_i h; rw [h3] at h; rw [List.filter_cons_of_neg (by simpa using h)]; exact ih
    · rename_i h; rw [h3] at h; rw [List.filter_cons_of_pos (by simpa using h)]; exact .cons h1 h2 h3 ih
theorem allFrom_ok (n : Nat) : ∀ {es : List Ent} {es' : List MapEntry}, RelE E es es' → allFrom n es = es'.all (fun e => decide (e.born ≥ n))
  | _, _, .nil => rfl
  | _, _, .cons h1 h2 h3 t => by
    simp only [allFrom, List.all_cons]
    split
    · rename_i h; rw [h3] at h; rw [allFrom_ok n t]; simp at h; simp [h]
    · rename_i h; rw [h3] at h
      have : ¬ n ≤ _ := fun e => by have := Nat.ble_eq_true_of_le e; rw [this] at h; cases h
      simp [this]
theorem nextS_ok {r : Nat} (h : nextS r s = some (v, s')) :
    Step s s' ∧ ∀ {G B E w b} (ty : TypeId), (∀ j, In s'.l j → G j) → Sat G B E s w → (E r).at b → Ok1 P G B s' v E w (Instr.next (.pointer (some ⟨b, 0, none⟩)) true ty) := by
  obtain ⟨o, ho, h1⟩ := oc_some h
  obtain ⟨l, pos, rfl, h2⟩ := siterC_some h1
  clear h h1
  cases hlt : Nat.blt pos l.length with
  | true =>
    rw [hlt, bi_true] at h2
    cases h2
    refine ⟨Step.set _ _ _, fun {G B E w b} ty hG hs hb => ?_⟩
    have hg := hG _ (in_set _ _ _)
    obtain ⟨b', C, ob, he, hh, hok, _⟩ := hs.fact r _ hg ho
    cases hok
    obtain rfl := hs.at_live he hb
    obtain ⟨k1, k2⟩ := hs.write (o' := .siter l (pos + (Utf8.decode ⟨l.toArray⟩ pos).2)) (ob' := .stringIter ⟨l.toArray⟩ (pos + (Utf8.decode ⟨l.toArray⟩ pos).2)) hg ho rfl he rfl
    have hget := run_getObj_of (P := P) hh (fun _ _ _ e => by cases e)
    have hset := run_setObj_of (P := P) (.stringIter ⟨l.toArray⟩ (pos + (Utf8.decode ⟨l.toArray⟩ pos).2)) hh (fun _ _ _ e => by cases e)
    have hlt' : pos < l.length := by simpa using hlt
    have hsz : (ByteArray.mk l.toArray).size = l.length := by simp [ByteArray.size]
    refine ⟨E, .tuple #[.bool true, .int .i64 (pos : Int), .int .i32 ((Utf8.decode ⟨l.toArray⟩ pos).1 : Int)], _, ?_, .tuple (.cons (.bool _) (.cons (.int _ _) (.cons (.int _ _) .nil))), k1, k2⟩
    simp [Instr.next, hget, hsz, hlt', hset, goInt]
  | false =>
    rw [hlt, bi_false] at h2
    cases h2
    refine ⟨Step.see _ _, fun {G B E w b} ty hG hs hb => ?_⟩
    have hg := hG _ (in_see _ _)
    obtain ⟨b', C, ob, he, hh, hok, _⟩ := hs.fact r _ hg ho
    cases hok
    obtain rfl := hs.at_live he hb
    have hget := run_getObj_of (P := P) hh (fun _ _ _ e => by cases e)
    have hlt' : ¬ pos < l.length := fun e => by have : Nat.blt pos l.length = true := by simpa using e
                                                rw [this] at hlt; cases hlt
    have hsz : (ByteArray.mk l.toArray).size = l.length := by simp [ByteArray.size]
    exact Ok1.pure (hs.seen r) (v' := .tuple #[.bool false]) (by simp [Instr.next, hget, hsz, hlt']) (.tuple (.cons (.bool _) .nil))
theorem nextM_ok {r : Nat} (h : nextM r s = some (v, s')) :
    Step s s' ∧ ∀ {G B E w b} (ty : TypeId), (∀ j, In s'.l j → G j) → Sat G B E s w → (E r).at b → Ok1 P G B s' v E w (Instr.next (.pointer (some ⟨b, 0, none⟩)) false ty) := by
  obtain ⟨o, ho, h1⟩ := oc_some h
  obtain ⟨m, since, seen, last, rfl, h2⟩ := iterC_some h1
  clear h h1
  cases m with
  | none =>
    cases h2
    refine ⟨Step.see _ _, fun {G B E w b} ty hG hs hb => ?_⟩
    obtain ⟨b', C, ob, he, hh, hok, _⟩ := hs.fact r _ (hG _ (in_see _ _)) ho
    obtain ⟨m', rfl, rfl⟩ := hok
    obtain rfl := hs.at_live he hb
    have hget := run_getObj_of (P := P) hh (fun _ _ _ e => by cases e)
    exact Ok1.pure (hs.seen r) (v' := .tuple #[.bool false]) (by simp [Instr.next, hget]) (.tuple (.cons (.bool _) .nil))
  | some m =>
    obtain ⟨o2, ho2, h3⟩ := oc_some h2
    obtain ⟨es, clock, rfl, h4⟩ := mapC_some h3
    obtain ⟨hcond, h5⟩ := bc_some h4
    clear h2 h3 h4
    have common : ∀ {G B E w b}, G r → G m → Sat G B E s w → (E r).at b → ∃ C bm Cm a, E r = .live b C ∧ w.heap[b]? = some (.mapIter (some bm) since seen.toArray last) ∧ E m = .live bm Cm ∧ w.heap[bm]? = some (.map a clock) ∧ RelE E es a.toList ∧
        (getObj b).run P w = .ok (.mapIter (some bm) since seen.toArray last) w ∧ (getObj bm).run P w = .ok (.map a clock) w ∧
        (!seen.toArray.isEmpty && !a.isEmpty && a.all fun e => decide (e.born ≥ last)) = false := by
      intro G B E w b hgr hgm hs hb
      obtain ⟨b', C, ob, he, hh, hok, _⟩ := hs.fact r _ hgr ho
      obtain ⟨m', rfl, bm, rfl, hbm⟩ := hok
      obtain rfl := hs.at_live he hb
      obtain ⟨Cm, a, hem, hhm, hes⟩ := hs.map hgm ho2 hbm
      refine ⟨C, bm, Cm, a, he, hh, hem, hhm, hes, run_getObj_of hh (fun _ _ _ e => by cases e), run_getObj_of hhm (fun _ _ _ e => by cases e), ?_⟩
      rw [allFrom_ok last hes] at hcond
      have hl := hes.get
      have hemp : a.isEmpty = es.isEmpty := by
        rw [Bool.eq_iff_iff, Array.isEmpty_iff_size_eq_zero, List.isEmpty_iff, ← List.length_eq_zero_iff, hl, Array.length_toList]
      rw [← Array.all_toList, hemp]
      cases h1 : seen.isEmpty <;> cases h2 : es.isEmpty <;> simp_all
    unfold nextE at h5
    split at h5
    · rename_i hleft
      cases h5
      refine ⟨(Step.see _ _).trans (Step.see _ _), fun {G B E w b} ty hG hs hb => ?_⟩
      obtain ⟨C, bm, Cm, a, he, hh, hem, hhm, hes, hg1, hg2, hc⟩ := common (hG _ (in_see _ _)) (hG _ ((in_lor _ _ _).2 (.inl (in_see _ _)))) hs hb
      have hl := leftE_ok seen hes
      rw [hleft] at hl
      have hfil : a.filter (fun e => !seen.toArray.contains e.born) = #[] := by
        apply Array.ext'
        rw [Array.toList_filter]
        cases hq : a.toList.filter (fun e => !seen.toArray.contains e.born) with
        | nil => rfl
        | cons x t => rw [hq] at hl; cases hl
      refine Ok1.pure ((hs.seen m).seen r) (v' := .tuple #[.bool false]) ?_ (.tuple (.cons (.bool _) .nil))
      simp only [Instr.next, Sem.run_bind, hg1, hg2, Result.andThen_ok, hc, Bool.false_eq_true, if_false, Sem.run_pure, hfil]
      simp [Question.forced]
    · rename_i e hleft
      obtain ⟨hborn, h6⟩ := bc_some h5
      cases h6
      refine ⟨(Step.see _ _).trans (Step.set _ _ _), fun {G B E w b} ty hG hs hb => ?_⟩
      have hgr := hG _ (in_set (s.see m) r _)
      obtain ⟨C, bm, Cm, a, he, hh, hem, hhm, hes, hg1, hg2, hc⟩ := common hgr (hG _ ((in_lor _ _ _).2 (.inl (in_see _ _)))) hs hb
      have hl := leftE_ok seen hes
      rw [hleft] at hl
      have hborn' : e.born < since := by simpa using hborn
      obtain ⟨e', hfil, hkey, hval, hbb⟩ : ∃ e', a.filter (fun e => !seen.toArray.contains e.born) = #[e'] ∧ Rel E e.key e'.key ∧ Rel E e.val e'.val ∧ e.born = e'.born := by
        cases hq : a.toList.filter (fun e => !seen.toArray.contains e.born) with
        | nil => rw [hq] at hl; cases hl
        | cons x t =>
          rw [hq] at hl
          cases hl with
          | cons q1 q2 q3 q4 =>
            cases q4
            refine ⟨x, ?_, q1, q2, q3⟩
            apply Array.ext'
            rw [Array.toList_filter, hq]
      have hset : OkObj E r (.iter (some m) since (seen ++ [e.born]) clock) (.mapIter (some bm) since (seen.toArray.push e'.born) clock) := ⟨some bm, by rw [hbb]; simp, bm, rfl, by rw [hem]; rfl⟩
      obtain ⟨k1, k2⟩ := (hs.seen m).write (o' := .iter (some m) since (seen ++ [e.born]) clock) hgr ho rfl he hset
      refine ⟨E, .tuple #[.bool true, e'.key, e'.val], _, ?_, .tuple (.cons (.bool _) (.cons hkey (.cons hval .nil))), k1, k2⟩
      have hst := run_setObj_of (P := P) (.mapIter (some bm) since (seen.toArray.push e'.born) clock) hh (fun _ _ _ e => by cases e)
      have hb1 : e'.born < since := by omega
      simp only [Instr.next, Sem.run_bind, hg1, hg2, Result.andThen_ok, hc, Bool.false_eq_true, if_false, Sem.run_pure, hfil]
      have hnb : ¬ (since ≤ e'.born) := by omega
      simp at hst
      simp [Question.forced, hb1, hnb, hst]
    · cases h5
theorem nextA_ok {x : AV} {isS : Bool} (h : nextA x isS s = some (v, s')) :
    Step s s' ∧ ∀ {G B E w x'} (ty : TypeId), (∀ j, In s'.l j → G j) → Sat G B E s w → Rel E x x' → Ok1 P G B s' v E w (Instr.next x' isS ty) := by
  obtain ⟨r, off, rfl, h1⟩ := ptrC_some h
  obtain ⟨hoff, h2⟩ := bc_some h1
  have hoff' : off = 0 := by simpa using hoff
  subst hoff'
  cases isS with
  | true =>
    obtain ⟨q1, q2⟩ := nextS_ok (P := P) h2
    exact ⟨q1, fun ty hG hs hx => by cases hx; rename_i b hb; exact q2 ty hG hs hb⟩
  | false =>
    obtain ⟨q1, q2⟩ := nextM_ok (P := P) h2
    exact ⟨q1, fun ty hG hs hx => by cases hx; rename_i b hb; exact q2 ty hG hs hb⟩
theorem lastN_ok : ∀ {l : List Nat} {n : Nat}, lastN l = some n → l.toArray.back? = some n
  | [], _, h => by cases h
  | [x], n, h => by cases h; rfl
  | x :: y :: l, n, h => by
    have := lastN_ok (l := y :: l) (n := n) h
    simpa using this
theorem bornE_ok (n : Nat) : ∀ {es : List Ent} {es' : List MapEntry} {e : Ent}, bornE n es = some e → RelE E es es' → ∃ e', es'.find? (fun x => x.born == n) = some e' ∧ Rel E e.key e'.key ∧ Rel E e.val e'.val
  | _, _, _, h, .nil => by cases h
  | _, _, _, h, .cons h1 h2 h3 t => by
    simp only [bornE] at h
    split at h
    · rename_i hb
      cases h
      rw [h3] at hb
      exact ⟨_, by rw [List.find?_cons_of_pos (by simpa using hb)], h1, h2⟩
    · rename_i hb
      rw [h3] at hb
      obtain ⟨e', q1, q2⟩ := bornE_ok n h t
      refine ⟨e', ?_, q2⟩
      rw [List.find?_cons_of_neg]
      · exact q1
      · intro hc
        have hc' := eq_of_beq hc
        rw [hc'] at hb; simp at hb
theorem entryA_ok {x : AV} (h : entryA x s = some (v, s')) :
    Step s s' ∧ ∀ {G B E w x'}, (∀ j, In s'.l j → G j) → Sat G B E s w → Rel E x x' → Ok1 P G B s' v E w (Instr.entry x') := by
  obtain ⟨r, off, rfl, h1⟩ := ptrC_some h
  obtain ⟨hoff, h2⟩ := bc_some h1
  obtain ⟨o, ho, h3⟩ := oc_some h2
  obtain ⟨m, since, seen, last, rfl, h4⟩ := iterC_some h3
  obtain ⟨m', hm, h5⟩ := oc_some h4
  obtain ⟨stamp, hstamp, h6⟩ := oc_some h5
  obtain ⟨o2, ho2, h7⟩ := oc_some h6
  obtain ⟨es, clock, rfl, h8⟩ := mapC_some h7
  obtain ⟨hcl, h9⟩ := bc_some h8
  obtain ⟨e, hbe, h10⟩ := oc_some h9
  clear h h1 h2 h3 h4 h5 h6 h7 h8 h9
  cases h10
  subst hm
  have hoff' : off = 0 := by simpa using hoff
  subst hoff'
  refine ⟨(Step.see _ _).trans (Step.see _ _), fun {G B E w x'} hG hs hx => ?_⟩
  cases hx
  rename_i b hb
  obtain ⟨b', C, ob, he, hh, hok, _⟩ := hs.fact r _ (hG _ ((in_lor _ _ _).2 (.inl (in_see _ _)))) ho
  obtain ⟨mm, rfl, bm, rfl, hbm⟩ := hok
  obtain rfl := hs.at_live he hb
  obtain ⟨Cm, a, hem, hhm, hes⟩ := hs.map (hG _ (in_see _ _)) ho2 hbm
  obtain ⟨e', hf, q1, q2⟩ := bornE_ok stamp hbe hes
  have hg1 := run_getObj_of (P := P) hh (fun _ _ _ e => by cases e)
  have hg2 := run_getObj_of (P := P) hhm (fun _ _ _ e => by cases e)
  have hcl' : clock = last := by simpa using hcl
  subst hcl'
  have hfa : a.find? (fun x => x.born == stamp) = some e' := by rw [← Array.find?_toList]; exact hf
  refine Ok1.pure ((hs.seen r).seen m') (v' := .tuple #[e'.key, e'.val]) ?_ (.tuple (.cons q1 (.cons q2 .nil)))
  simp only [Instr.entry, Sem.run_bind, hg1, Result.andThen_ok, lastN_ok hstamp, hg2, bne_self_eq_false, Bool.false_eq_true, if_false, hfa, Sem.run_pure]
theorem lenA_ok {ts : Array TypeId} {ty : TypeId} {x : AV} (h : lenA P ts.toList x s = some (v, s')) :
    Step s s' ∧ ∀ {G B E w x'}, (∀ j, In s'.l j → G j) → Sat G B E s w → Rel E x x' → Ok1 P G B s' v E w (Builtin.len_ ts ty #[x']) := by
  unfold lenA at h
  split at h
  case h_2 => cases h
  rename_i t rst hts
  have hts0 : ts[0]? = some t := by rw [← Array.getElem?_toList, hts]; rfl
  split at h
  · rename_i l hu
    cases h
    refine ⟨Step.refl _, fun {G B E w x'} hG hs hx => ?_⟩
    cases hx
    have hsz : (ByteArray.mk l.toArray).size = l.length := by simp [ByteArray.size]
    exact Ok1.pure hs (v' := .int .i64 (l.length : Int)) (by simp [Builtin.len_, hts0, und_run hu, goInt, hsz]) (.int _ _)
  · rename_i ps hu
    cases h
    refine ⟨Step.refl _, fun {G B E w x'} hG hs hx => ?_⟩
    cases hx
    have hsz : (ByteArray.mk (psVal E.ρ ps).toArray).size = (psVal E.ρ ps).length := by simp [ByteArray.size]
    exact Ok1.pure hs (v' := .int .i64 ((psVal E.ρ ps).length : Nat)) (by simp [Builtin.len_, hts0, und_run hu, goInt, hsz]) (.plen _)
  · rename_i e i ps hu
    cases h
    refine ⟨Step.refl _, fun {G B E w x'} hG hs hx => ?_⟩
    cases hx
    exact Ok1.pure hs (v' := .int .i64 ((psVal E.ρ ps).length : Nat)) (by simp [Builtin.len_, hts0, und_run hu, goInt]) (.plen _)
  · rename_i e hu
    cases h
    refine ⟨Step.refl _, fun {G B E w x'} hG hs hx => ?_⟩
    cases hx
    exact Ok1.pure hs (v' := .int .i64 (0 : Nat)) (by simp [Builtin.len_, hts0, und_run hu, goInt]) (.int _ _)
  · rename_i e hu
    cases h
    refine ⟨Step.refl _, fun {G B E w x'} hG hs hx => ?_⟩
    cases hx
    exact Ok1.pure hs (v' := .int .i64 (0 : Nat)) (by simp [Builtin.len_, hts0, und_run hu, goInt]) (.int _ _)
  · rename_i e i off n cap dr hu
    cases h
    refine ⟨Step.refl _, fun {G B E w x'} hG hs hx => ?_⟩
    cases hx
    exact Ok1.pure hs (v' := .int .i64 (n : Int)) (by simp [Builtin.len_, hts0, und_run hu, goInt]) (.int _ _)
  · rename_i k e hu
    cases h
    refine ⟨Step.refl _, fun {G B E w x'} hG hs hx => ?_⟩
    cases hx
    exact Ok1.pure hs (v' := .int .i64 (0 : Nat)) (by simp [Builtin.len_, hts0, und_run hu, goInt]) (.int _ _)
  · rename_i k e i hu
    obtain ⟨o, ho, h1⟩ := oc_some h
    obtain ⟨es, clock, rfl, h2⟩ := mapC_some h1
    cases h2
    refine ⟨Step.see _ _, fun {G B E w x'} hG hs hx => ?_⟩
    cases hx
    rename_i b hb
    obtain ⟨C, a, he, hh, hes⟩ := hs.map (hG _ (in_see _ _)) ho hb
    have hl := hes.get
    have hg := run_getObj_of (P := P) hh (fun _ _ _ e => by cases e)
    refine Ok1.pure (hs.seen i) (v' := .int .i64 (es.length : Int)) ?_ (.int _ _)
    simp [Builtin.len_, hts0, und_run hu, goInt, hg]
    simp at hl; omega
  · rename_i xx n e hu
    cases h
    refine ⟨Step.refl _, fun {G B E w x'} hG hs hx => ?_⟩
    exact Ok1.pure hs (v' := .int .i64 (n : Int)) (by cases x' <;> simp [Builtin.len_, hts0, und_run hu, goInt]) (.int _ _)
  · cases h
theorem capA_ok {ts : Array TypeId} {ty : TypeId} {x : AV} (h : capA P ts.toList x s = some (v, s')) :
    Step s s' ∧ ∀ {G B E w x'}, (∀ j, In s'.l j → G j) → Sat G B E s w → Rel E x x' → Ok1 P G B s' v E w (Builtin.cap_ ts ty #[x']) := by
  unfold capA at h
  split at h
  case h_2 => cases h
  rename_i t rst i off len c dr hts
  have hts0 : ts[0]? = some t := by rw [← Array.getElem?_toList, hts]; rfl
  split at h
  case h_2 => cases h
  rename_i e hu
  cases h
  refine ⟨Step.refl _, fun {G B E w x'} hG hs hx => ?_⟩
  cases hx
  rename_i b c' hb hc
  cases hc
  exact Ok1.pure hs (v' := .int .i64 (c : Int)) (by simp [Builtin.cap_, hts0, und_run hu, goInt]) (.int _ _)
theorem zeroCells_rel {z : AV} {zv : Value} (hr : Rel E z zv) (n : Nat) (hpos : 0 < z.cells.length) : RelL E (repL z.cells n) (Builtin.zeroCells zv.cells n).toList := by
  have hl := hr.cells.length
  simp only [Array.length_toList] at hl
  have := repL_rel hr (n := n) (k := z.cells.length) rfl hpos
  rw [hl] at this
  exact this
theorem clearA_ok {ts : Array TypeId} {ty : TypeId} {x : AV} (h : clearA P ts.toList x s = some (v, s')) :
    Step s s' ∧ ∀ {G B E w x'}, (∀ j, In s'.l j → G j) → Sat G B E s w → Rel E x x' → Ok1 P G B s' v E w (Builtin.clear_ ts ty #[x']) := by
  unfold clearA at h
  split at h
  case h_2 => cases h
  rename_i t rst hts
  have hts0 : ts[0]? = some t := by rw [← Array.getElem?_toList, hts]; rfl
  split at h
  · rename_i d hu
    cases h
    refine ⟨Step.refl _, fun {G B E w x'} hG hs hx => ?_⟩
    cases hx
    exact Ok1.pure hs (v' := .tuple #[]) (by simp [Builtin.clear_, hts0, und_run hu]) (.tuple .nil)
  · rename_i d hu
    cases h
    refine ⟨Step.refl _, fun {G B E w x'} hG hs hx => ?_⟩
    cases hx
    exact Ok1.pure hs (v' := .tuple #[]) (by simp [Builtin.clear_, hts0, und_run hu]) (.tuple .nil)
  · rename_i d i hu
    obtain ⟨o, ho, h1⟩ := oc_some h
    obtain ⟨es, clock, rfl, h2⟩ := mapC_some h1
    cases h2
    refine ⟨Step.set _ _ _, fun {G B E w x'} hG hs hx => ?_⟩
    cases hx
    rename_i b hb
    have hgi := hG _ (in_set _ _ _)
    obtain ⟨C, a, he, hh, hes⟩ := hs.map hgi ho hb
    have hg := run_getObj_of (P := P) hh (fun _ _ _ e => by cases e)
    obtain ⟨k1, k2⟩ := hs.write (o' := .map [] clock) (ob' := .map #[] clock) hgi ho rfl he ⟨#[], rfl, .nil⟩
    have hst := run_setObj_of (P := P) (.map #[] clock) hh (fun _ _ _ e => by cases e)
    exact ⟨E, .tuple #[], _, by simp [Builtin.clear_, hts0, und_run hu, hg, hst], .tuple .nil, k1, k2⟩
  · rename_i e i off n cap dr hu
    cases hn : Nat.beq n 0 with
    | true =>
      rw [show Nat.beq n (nat_lit 0) = Nat.beq n 0 from rfl, hn, bi_true] at h
      cases h
      have hn' : n = 0 := by simpa using hn
      subst hn'
      refine ⟨Step.refl _, fun {G B E w x'} hG hs hx => ?_⟩
      cases hx
      exact Ok1.pure hs (v' := .tuple #[]) (by simp [Builtin.clear_, hts0, und_run hu]) (.tuple .nil)
    | false =>
      rw [show Nat.beq n (nat_lit 0) = Nat.beq n 0 from rfl, hn, bi_false] at h
      obtain ⟨z, hz, h1⟩ := oc_some h
      obtain ⟨hpos, h2⟩ := bc_some h1
      obtain ⟨s2, hs2, h3⟩ := oc_some h2
      cases h3
      have hn' : n ≠ 0 := fun e => by subst e; simp at hn
      refine ⟨storeN_step hs2, fun {G B E w x'} hG hs hx => ?_⟩
      cases hx
      rename_i b c hb hc
      obtain ⟨zv, hzr, hzrel⟩ := zeroOf_run hz
      obtain ⟨b', C, w', he, hrun, k1, k2⟩ := hs.storeN (P := P) hG hs2 (zeroCells_rel (hzrel E) n (by simpa using hpos))
      obtain rfl := hs.at_live he hb
      obtain ⟨n', rfl⟩ := Nat.exists_eq_succ_of_ne_zero hn'
      exact ⟨E, .tuple #[], w', by simp [Builtin.clear_, hts0, und_run hu, hzr, hrun], .tuple .nil, k1, k2⟩
  · cases h
end
end Ev
end Go.Proofs.YtpklliedmplpdaaGreatDoor
