/-
  The evaluator: ranges over maps and texts; len, cap, clear.
-/
import Derived.Test.YtnjpdipombnigaaGreatDoorYe
namespace Go.Proofs.YtnjpdipombnigaaGreatDoor
namespace Ev
open Go.RowKit

section
variable {P : Program} {G : Nat → Prop} {B : Nat} {E : Env} {s s' : St} {w : World} {v : AV}

theorem rangeA_ok {t : TypeId} {x : AV} (h : rangeA P t x s = some (v, s')) :
    Step s s' ∧ ∀ {G B E w x'}, (∀ j, In s'.l j → G j) → Sat G B E s w → Rel E x x' → Ok1 P G B s' v E w (Instr.range t x') := by
  unfold rangeA at h
  split at h
  · rename_i hu
    split at h
    · rename_i l
      cases h
      refine ⟨Step.new _ _, fun {G B E w x'} hG hs hx => ?_⟩
      cases hx
      obtain ⟨k1, k2⟩ := hs.new (o := .siter l 0) (ob := .stringIter ⟨l.toArray⟩ 0) (C := 0) (hG _ (in_new _ _)) rfl rfl
      exact ⟨_, .pointer (some ⟨w.heap.size, 0, none⟩), _, by simp [Instr.range, und_run hu], .ptr (by rw [Env.set_same]; rfl), k1, k2⟩
    · cases h
  · rename_i kt e hu
    split at h
    · cases h
      refine ⟨Step.new _ _, fun {G B E w x'} hG hs hx => ?_⟩
      cases hx
      obtain ⟨k1, k2⟩ := hs.new (o := .iter none 0 [] 0) (ob := .mapIter none 0 #[] 0) (C := 0) (hG _ (in_new _ _)) rfl ⟨none, rfl, rfl⟩
      exact ⟨_, .pointer (some ⟨w.heap.size, 0, none⟩), _, by simp [Instr.range, und_run hu], .ptr (by rw [Env.set_same]; rfl), k1, k2⟩
    · rename_i m
      obtain ⟨o, ho, h1⟩ := oc_some h
      rcases mapU_some h1 with ⟨es, clock, rfl, h2⟩ | ⟨es, K, t', rfl, h2⟩
      · cases h2
        refine ⟨(Step.see _ _).trans (Step.new _ _), fun {G B E w x'} hG hs hx => ?_⟩
        have hgm : G m := hG m ((in_lor _ _ _).2 (.inl (in_see _ _)))
        have hgc : G s.c := hG _ (in_new (s.see m) _)
        cases hx
        rename_i b hb
        obtain ⟨C, a, he, hh, hes⟩ := hs.map hgm ho hb
        have hcu := hs.fresh s.c (Nat.le_refl _) hgc
        have hmc : m ≠ s.c := fun e => by rw [e, hcu] at he; cases he
        obtain ⟨k1, k2⟩ := (hs.seen m).new (o := .iter (some m) clock [] clock) (ob := .mapIter (some b) clock #[] clock) (C := 0) hgc rfl ⟨some b, rfl, b, rfl, by
          show (Env.set E s.c _ m).at b
          rw [Env.set_ne _ _ hmc]; exact hb⟩
        have hget := run_getObj_of (P := P) hh (fun _ _ _ e => by cases e)
        exact ⟨_, .pointer (some ⟨w.heap.size, 0, none⟩), _, by simp [Instr.range, und_run hu, hget], .ptr (by show (Env.set E s.c _ s.c).at _; rw [Env.set_same]; rfl), k1, k2⟩
      · cases h2
        refine ⟨(Step.see _ _).trans (Step.new _ _), fun {G B E w x'} hG hs hx => ?_⟩
        have hgm : G m := hG m ((in_lor _ _ _).2 (.inl (in_see _ _)))
        have hgc : G s.c := hG _ (in_new (s.see m) _)
        cases hx
        rename_i b hb
        obtain ⟨C, a, he, hh, hes⟩ := hs.umap hgm ho hb
        have hcu := hs.fresh s.c (Nat.le_refl _) hgc
        have hmc : m ≠ s.c := fun e => by rw [e, hcu] at he; cases he
        have htc : t' ≠ s.c := fun e => by have := hes.tag; rw [e, hcu] at this; cases this
        obtain ⟨k1, k2⟩ := (hs.seen m).new (o := .uiter m K [] K t') (ob := .mapIter (some b) ((E.st t').f K) #[] ((E.st t').f K)) (C := 0) hgc rfl ⟨b, rfl, by
          show (Env.set E s.c _ m).at b
          rw [Env.set_ne _ _ hmc]; exact hb, by
          show Env.set E s.c _ t' = .dead
          rw [Env.set_ne _ _ htc]; exact hes.tag, hes.le, hes.le⟩
        have hget := run_getObj_of (P := P) hh (fun _ _ _ e => by cases e)
        exact ⟨_, .pointer (some ⟨w.heap.size, 0, none⟩), _, by simp [Instr.range, und_run hu, hget], .ptr (by show (Env.set E s.c _ s.c).at _; rw [Env.set_same]; rfl), k1, k2⟩
    · cases h
  · cases h

theorem memN_ok (x : Nat) : ∀ (l : List Nat), memN x l = l.contains x
  | [] => rfl
  | y :: l => by
    simp only [memN]
    split
    · rename_i h; have : x = y := by simpa using h
      subst this; simp
    · rename_i h; have : x ≠ y := fun e => by subst e; simp at h
      rw [memN_ok x l]; simp [this]
theorem leftE_ok (seen : List Nat) : ∀ {es : List Ent} {es' : List MapEntry}, RelE E es es' → RelE E (leftE seen es) (es'.filter fun e => !seen.toArray.contains e.born)
  | _, _, .nil => .nil
  | _, _, .cons (x := x) (y := y) h1 h2 h3 t => by
    have ih := leftE_ok seen t
    simp only [leftE, memN_ok]
    split
    · rename_i h; rw [h3] at h; rw [List.filter_cons_of_neg (by simpa using h)]; exact ih
    · rename_i h; rw [h3] at h; rw [List.filter_cons_of_pos (by simpa using h)]; exact .cons h1 h2 h3 ih
theorem allFrom_ok (n : Nat) : ∀ {es : List Ent} {es' : List MapEntry}, RelE E es es' → allFrom n es = es'.all (fun e => decide (e.born ≥ n))
  | _, _, .nil => rfl
  | _, _, .cons h1 h2 h3 t => by
    simp only [allFrom, List.all_cons]
    split
    · rename_i h; rw [h3] at h; rw [allFrom_ok n t]; simp at h; simp [h]
    · rename_i h; rw [h3] at h
      have : ¬ n ≤ _ := fun e => by have := Nat.ble_eq_true_of_le e; rw [this] at h; cases h
      simp [this]
theorem nextS_ok {r : Nat} (h : nextS r s = some (v, s')) :
    Step s s' ∧ ∀ {G B E w b} (ty : TypeId), (∀ j, In s'.l j → G j) → Sat G B E s w → (E r).at b → Ok1 P G B s' v E w (Instr.next (.pointer (some ⟨b, 0, none⟩)) true ty) := by
  obtain ⟨o, ho, h1⟩ := oc_some h
  obtain ⟨l, pos, rfl, h2⟩ := siterC_some h1
  clear h h1
  cases hlt : Nat.blt pos l.length with
  | true =>
    rw [hlt, bi_true] at h2
    cases h2
    refine ⟨Step.set _ _ _, fun {G B E w b} ty hG hs hb => ?_⟩
    have hg := hG _ (in_set _ _ _)
    obtain ⟨b', C, ob, he, hh, hok, _⟩ := hs.fact r _ hg ho
    cases hok
    obtain rfl := hs.at_live he hb
    obtain ⟨k1, k2⟩ := hs.write (o' := .siter l (pos + (Utf8.decode ⟨l.toArray⟩ pos).2)) (ob' := .stringIter ⟨l.toArray⟩ (pos + (Utf8.decode ⟨l.toArray⟩ pos).2)) hg ho rfl he rfl
    have hget := run_getObj_of (P := P) hh (fun _ _ _ e => by cases e)
    have hset := run_setObj_of (P := P) (.stringIter ⟨l.toArray⟩ (pos + (Utf8.decode ⟨l.toArray⟩ pos).2)) hh (fun _ _ _ e => by cases e)
    have hlt' : pos < l.length := by simpa using hlt
    have hsz : (ByteArray.mk l.toArray).size = l.length := by simp [ByteArray.size]
    refine ⟨E, .tuple #[.bool true, .int .i64 (pos : Int), .int .i32 ((Utf8.decode ⟨l.toArray⟩ pos).1 : Int)], _, ?_, .tuple (.cons (.bool _) (.cons (.int _ _) (.cons (.int _ _) .nil))), k1, k2⟩
    simp [Instr.next, hget, hsz, hlt', hset, goInt]
  | false =>
    rw [hlt, bi_false] at h2
    cases h2
    refine ⟨Step.see _ _, fun {G B E w b} ty hG hs hb => ?_⟩
    have hg := hG _ (in_see _ _)
    obtain ⟨b', C, ob, he, hh, hok, _⟩ := hs.fact r _ hg ho
    cases hok
    obtain rfl := hs.at_live he hb
    have hget := run_getObj_of (P := P) hh (fun _ _ _ e => by cases e)
    have hlt' : ¬ pos < l.length := fun e => by have : Nat.blt pos l.length = true := by simpa using e
                                                rw [this] at hlt; cases hlt
    have hsz : (ByteArray.mk l.toArray).size = l.length := by simp [ByteArray.size]
    exact Ok1.pure (hs.seen r) (v' := .tuple #[.bool false]) (by simp [Instr.next, hget, hsz, hlt']) (.tuple (.cons (.bool _) .nil))
theorem contains_map {S : Stamps} (x : Nat) : ∀ (l : List Nat), (l.map S.f).contains (S.f x) = l.contains x
  | [] => rfl
  | y :: l => by
    have ih := contains_map (S := S) x l
    have e : (S.f x == S.f y) = (x == y) := by
      rw [Bool.eq_iff_iff, beq_iff_eq, beq_iff_eq]; exact ⟨S.inj _ _, fun e => by rw [e]⟩
    simp only [List.map_cons, List.contains_cons, ih, e]
theorem leftES_ok {S : Stamps} (seen : List Nat) : ∀ {es : List Ent} {l : List MapEntry}, RelS E S es l → RelS E S (leftE seen es) (l.filter fun e => !(seen.map S.f).toArray.contains e.born)
  | _, _, .nil => .nil
  | _, _, .cons (x := x) (y := y) h1 h2 h3 t => by
    have ih := leftES_ok seen t
    have hc : (seen.map S.f).toArray.contains y.born = seen.contains x.born := by
      rw [h3, ← contains_map (S := S) x.born seen]; simp
    simp only [leftE, memN_ok]
    split
    · rename_i h; rw [List.filter_cons_of_neg (by rw [hc, h]; simp)]; exact ih
    · rename_i h; rw [List.filter_cons_of_pos (by rw [hc, h]; simp)]; exact .cons h1 h2 h3 ih
theorem allFromS_ok {S : Stamps} {n : Nat} (hn : S.n ≤ n) : ∀ {es : List Ent} {l : List MapEntry}, RelS E S es l → allFrom n es = l.all (fun e => decide (e.born ≥ S.f n))
  | _, _, .nil => rfl
  | _, _, .cons (x := x) (y := y) h1 h2 h3 t => by
    have hlt := S.lt_iff (a := x.born) hn
    simp only [allFrom, List.all_cons]
    split
    · rename_i h
      have h' : n ≤ x.born := by simpa using h
      have : y.born ≥ S.f n := by rw [h3]; omega
      rw [allFromS_ok hn t]; simp [this]
    · rename_i h
      have h' : ¬ n ≤ x.born := fun e => by rw [Nat.ble_eq_true_of_le e] at h; cases h
      have : ¬ y.born ≥ S.f n := by rw [h3]; omega
      simp [this]
theorem all_perm {α : Type} {l m : List α} (h : l.Perm m) (p : α → Bool) : l.all p = m.all p := by
  rw [Bool.eq_iff_iff]; simp [List.all_eq_true, h.mem_iff]
theorem RelS.mem {S : Stamps} {es : List Ent} {l : List MapEntry} (h : RelS E S es l) {y : MapEntry} (hy : y ∈ l) : ∃ x ∈ es, Rel E x.key y.key ∧ Rel E x.val y.val ∧ y.born = S.f x.born := by
  obtain ⟨j, hj⟩ := List.getElem?_of_mem hy
  obtain ⟨x, hx, q⟩ := (h.at j).2 y hj
  exact ⟨x, List.mem_of_getElem? hx, q⟩
theorem RelE.mem {es : List Ent} {l : List MapEntry} (h : RelE E es l) : ∀ {y : MapEntry}, y ∈ l → ∃ x ∈ es, Rel E x.key y.key ∧ Rel E x.val y.val ∧ x.born = y.born := by
  induction h with
  | nil => intro y hy; cases hy
  | cons h1 h2 h3 t ih =>
    intro y hy
    rcases List.mem_cons.1 hy with rfl | hy
    · exact ⟨_, List.mem_cons_self .., h1, h2, h3⟩
    · obtain ⟨x, q1, q2⟩ := ih hy
      exact ⟨x, List.mem_cons_of_mem _ q1, q2⟩
theorem RelS.len {S : Stamps} : ∀ {es : List Ent} {l : List MapEntry}, RelS E S es l → es.length = l.length
  | _, _, .nil => rfl
  | _, _, .cons _ _ _ t => by simp [t.len]
theorem allOld_ok {n : Nat} : ∀ {es : List Ent}, allOld n es = true → ∀ e ∈ es, e.born < n
  | [], _ => fun e h => by cases h
  | x :: es, h => by
    simp only [allOld] at h
    split at h
    · rename_i hb
      intro e he
      rcases List.mem_cons.1 he with rfl | he
      · simpa using hb
      · exact allOld_ok h e he
    · cases h
/-- The next entry of a map: one of those that are left. -/
theorem run_next_map {b bm : Nat} {since last clock : Nat} {seen : Array Nat} {a : Array MapEntry} (hh : w.heap[b]? = some (.mapIter (some bm) since seen last)) (hhm : w.heap[bm]? = some (.map a clock))
    (hc : (!seen.isEmpty && !a.isEmpty && a.all fun e => decide (e.born ≥ last)) = false) (ty : TypeId) :
    (a.toList.filter (fun e => !seen.contains e.born) = [] → (Instr.next (.pointer (some ⟨b, 0, none⟩)) false ty).run P w = .ok (.tuple #[.bool false]) w) ∧
    ((∀ e ∈ a.toList.filter (fun e => !seen.contains e.born), e.born < since) → a.toList.filter (fun e => !seen.contains e.born) ≠ [] → ∃ y ∈ a.toList.filter (fun e => !seen.contains e.born), ∃ n,
      (Instr.next (.pointer (some ⟨b, 0, none⟩)) false ty).run P w = .ok (.tuple #[.bool true, y.key, y.val]) (({ w with drawn := n } : World).putObj b (.mapIter (some bm) since (seen.push y.born) clock))) := by
  have hg1 := run_getObj_of (P := P) hh (fun _ _ _ e => by cases e)
  have hg2 := run_getObj_of (P := P) hhm (fun _ _ _ e => by cases e)
  have hset : ∀ (n : Nat) (y : MapEntry), (setObj b (.mapIter (some bm) since (seen.push y.born) clock)).run P ({ w with drawn := n } : World) = .ok () (({ w with drawn := n } : World).putObj b (.mapIter (some bm) since (seen.push y.born) clock)) :=
    fun n y => run_setObj_of (w := { w with drawn := n }) _ hh (fun _ _ _ e => by cases e)
  refine ⟨fun hl => ?_, fun hold hne => ?_⟩
  · have hfil : a.filter (fun e => !seen.contains e.born) = #[] := by apply Array.ext'; rw [Array.toList_filter]; exact hl
    simp only [Instr.next, Sem.run_bind, hg1, hg2, Result.andThen_ok, hc, Bool.false_eq_true, if_false, Sem.run_pure, hfil]
    simp [Question.forced]
  · generalize hL : a.filter (fun e => !seen.contains e.born) = L at *
    have hLl : a.toList.filter (fun e => !seen.contains e.born) = L.toList := by rw [← Array.toList_filter, hL]
    rw [hLl] at hold hne
    have ho : L.filter (fun e => decide (e.born < since)) = L := by
      apply Array.ext'; rw [Array.toList_filter]; exact List.filter_eq_self.2 fun e he => by simpa using hold e he
    have hn : L.filter (fun e => decide (e.born ≥ since)) = #[] := by
      apply Array.ext'; rw [Array.toList_filter]; exact List.filter_eq_nil_iff.2 fun e he => by have := hold e he; simpa using this
    have hsz : 0 < L.size := by
      rw [← Array.length_toList]; exact List.length_pos_iff.2 hne
    have hemp : L.isEmpty = false := by
      rw [Bool.eq_false_iff]; intro e; rw [Array.isEmpty_iff_size_eq_zero] at e; omega
    have hrun : ∀ (i n : Nat) (h : i < L.size), (choose (.mapNext (L.map some).size)).run P w = .ok i { w with drawn := n } → ∃ y ∈ L.toList, ∃ n,
        (Instr.next (.pointer (some ⟨b, 0, none⟩)) false ty).run P w = .ok (.tuple #[.bool true, y.key, y.val]) (({ w with drawn := n } : World).putObj b (.mapIter (some bm) since (seen.push y.born) clock)) := by
      intro i n hi hch
      refine ⟨L[i], by simp, n, ?_⟩
      simp only [Instr.next, Sem.run_bind, hg1, hg2, Result.andThen_ok, hc, Bool.false_eq_true, if_false, Sem.run_pure, hL, ho, hn, hemp, Array.append_empty, Array.empty_append, hch]
      have hx : (L.map some)[i]? = some (some L[i]) := by simp [hi]
      simp only [hx, Sem.run_bind, hset n L[i], Result.andThen_ok, Sem.run_pure]
    rw [hLl]
    by_cases h1 : L.size ≤ 1
    · exact hrun 0 w.drawn hsz (by simp [run_choose, Question.forced, h1])
    · refine hrun (w.tape w.drawn (.mapNext (L.map some).size) % L.size) (w.drawn + 1) (Nat.mod_lt _ hsz) ?_
      simp [run_choose, Question.forced, h1, Question.cut]
theorem Sat.uiter (hs : Sat G B E s w) {r m : Nat} {es : List Ent} {since last K t : Nat} {seen : List Nat} (hgr : G r) (hgm : G m) (ho : s.h.get r = some (.uiter m since seen last t)) (ho2 : s.h.get m = some (.umap es K t)) {b : Nat} (hb : (E r).at b) (hcond : (seen.isEmpty || es.isEmpty || !allFrom last es) = true) :
    ∃ C bm Cm a l, E r = .live b C ∧ w.heap[b]? = some (.mapIter (some bm) ((E.st t).f since) (seen.map (E.st t).f).toArray ((E.st t).f last)) ∧ E m = .live bm Cm ∧ w.heap[bm]? = some (.map a ((E.st t).f K)) ∧ AnyMap E es K t a ∧ l.Perm a.toList ∧ RelS E (E.st t) es l ∧ (E.st t).n ≤ since ∧ (E.st t).n ≤ last ∧
      (!(seen.map (E.st t).f).toArray.isEmpty && !a.isEmpty && a.all fun e => decide (e.born ≥ (E.st t).f last)) = false := by
  obtain ⟨b', C, ob, he, hh, hok, _⟩ := hs.fact r _ hgr ho
  obtain ⟨bm, rfl, hbm, _, hn1, hn2⟩ := hok
  obtain rfl := hs.at_live he hb
  obtain ⟨Cm, a, hem, hhm, hes⟩ := hs.umap hgm ho2 hbm
  obtain ⟨l, hp, hl⟩ := hes.rel
  refine ⟨C, bm, Cm, a, l, he, hh, hem, hhm, hes, hp, hl, hn1, hn2, ?_⟩
  rw [allFromS_ok hn2 hl, all_perm hp] at hcond
  have hlen := hl.len
  have hemp : a.isEmpty = es.isEmpty := by
    rw [Bool.eq_iff_iff, Array.isEmpty_iff_size_eq_zero, List.isEmpty_iff, ← List.length_eq_zero_iff, hlen, hp.length_eq, Array.length_toList]
  have hse : (seen.map (E.st t).f).toArray.isEmpty = seen.isEmpty := by simp
  rw [← Array.all_toList, hemp, hse]
  cases h1 : seen.isEmpty <;> cases h2 : es.isEmpty <;> simp_all
theorem nextUE_ok {r m since K last t : Nat} {seen : List Nat} {es : List Ent} (ho : s.h.get r = some (.uiter m since seen last t)) (ho2 : s.h.get m = some (.umap es K t)) (hcond : (seen.isEmpty || es.isEmpty || !allFrom last es) = true) (h : nextUE r m since K t seen s (leftE seen es) = some (v, s')) :
    Step s s' ∧ ∀ {G B E w b} (ty : TypeId), (∀ j, In s'.l j → G j) → Sat G B E s w → (E r).at b → Ok1 P G B s' v E w (Instr.next (.pointer (some ⟨b, 0, none⟩)) false ty) := by
  unfold nextUE at h
  split at h
  · rename_i hleft
    cases h
    refine ⟨(Step.see _ _).trans (Step.see _ _), fun {G B E w b} ty hG hs hb => ?_⟩
    obtain ⟨C, bm, Cm, a, l, he, hh, hem, hhm, hes, hp, hl, hn1, hn2, hc⟩ := hs.uiter (hG _ (in_see _ _)) (hG _ ((in_lor _ _ _).2 (.inl (in_see _ _)))) ho ho2 hb hcond
    have hlf := leftES_ok seen hl
    rw [hleft] at hlf
    have hnil : a.toList.filter (fun e => !(seen.map (E.st t).f).toArray.contains e.born) = [] := by
      have hq := (hp.filter fun e => !(seen.map (E.st t).f).toArray.contains e.born)
      cases hx : l.filter (fun e => !(seen.map (E.st t).f).toArray.contains e.born) with
      | nil => rw [hx] at hq; exact hq.symm.eq_nil
      | cons x y => rw [hx] at hlf; cases hlf
    exact Ok1.pure ((hs.seen m).seen r) (v' := .tuple #[.bool false]) ((run_next_map hh hhm hc ty).1 hnil) (.tuple (.cons (.bool _) .nil))
  · rename_i e hleft
    obtain ⟨hborn, h6⟩ := bc_some h
    cases h6
    refine ⟨(Step.see _ _).trans (Step.set _ _ _), fun {G B E w b} ty hG hs hb => ?_⟩
    have hgr := hG _ (in_set (s.see m) r _)
    obtain ⟨C, bm, Cm, a, l, he, hh, hem, hhm, hes, hp, hl, hn1, hn2, hc⟩ := hs.uiter hgr (hG _ ((in_lor _ _ _).2 (.inl (in_see _ _)))) ho ho2 hb hcond
    have hlf := leftES_ok seen hl
    have hq := (hp.filter fun e => !(seen.map (E.st t).f).toArray.contains e.born)
    have hmem : ∀ y ∈ a.toList.filter (fun e => !(seen.map (E.st t).f).toArray.contains e.born), ∃ x ∈ leftE seen es, Rel E x.key y.key ∧ Rel E x.val y.val ∧ y.born = (E.st t).f x.born := fun y hy => hlf.mem (hq.mem_iff.2 hy)
    have hborn' : e.born < since := by simpa using hborn
    have hne : a.toList.filter (fun e => !(seen.map (E.st t).f).toArray.contains e.born) ≠ [] := by
      intro hx
      rw [hx] at hq
      rw [hq.eq_nil, hleft] at hlf
      cases hlf
    obtain ⟨y, hy, n, hrun⟩ := (run_next_map (P := P) hh hhm hc ty).2 (fun y hy => by
      obtain ⟨x, hx, _, _, hb⟩ := hmem y hy
      rw [hleft, List.mem_singleton] at hx
      subst hx
      rw [hb]; exact ((E.st t).lt_iff hn1).2 hborn') hne
    obtain ⟨x, hx, q1, q2, q3⟩ := hmem y hy
    rw [hleft, List.mem_singleton] at hx
    subst hx
    have hset : OkObj E r (.uiter m since (seen ++ [x.born]) K t) (.mapIter (some bm) ((E.st t).f since) ((seen.map (E.st t).f).toArray.push y.born) ((E.st t).f K)) := ⟨bm, by rw [q3]; simp, by rw [hem]; rfl, hes.tag, hn1, hes.le⟩
    obtain ⟨k1, k2⟩ := ((hs.seen m).drew n).write (o' := .uiter m since (seen ++ [x.born]) K t) hgr ho rfl he hset
    exact ⟨E, _, _, hrun, .tuple (.cons (.bool _) (.cons q1 (.cons q2 .nil))), k1, (Ext.drew _ n).trans k2 (fun _ h => h)⟩
  · cases h
theorem altsU_mem {r m since clock t : Nat} {seen : List Nat} : ∀ {l : List Ent} {e : Ent}, e ∈ l → (AV.tuple [.bool true, e.key, e.val], (s.see m).set r (some (.uiter m since (seen ++ [e.born]) clock t))) ∈ altsU r m since clock t seen s l
  | x :: l, e, h => by
    rcases List.mem_cons.1 h with rfl | h
    · exact List.mem_cons_self ..
    · exact List.mem_cons_of_mem _ (altsU_mem h)
theorem altsE_mem {r m since clock : Nat} {seen : List Nat} : ∀ {l : List Ent} {e : Ent}, e ∈ l → (AV.tuple [.bool true, e.key, e.val], (s.see m).set r (some (.iter (some m) since (seen ++ [e.born]) clock))) ∈ altsE r m since clock seen s l
  | x :: l, e, h => by
    rcases List.mem_cons.1 h with rfl | h
    · exact List.mem_cons_self ..
    · exact List.mem_cons_of_mem _ (altsE_mem h)
theorem altsU_all {r m since clock t : Nat} {seen : List Nat} {p : AV × St} : ∀ {l : List Ent}, p ∈ altsU r m since clock t seen s l → ∃ o, p.2 = (s.see m).set r o
  | x :: l, h => by
    rcases List.mem_cons.1 h with rfl | h
    · exact ⟨_, rfl⟩
    · exact altsU_all h
theorem altsE_all {r m since clock : Nat} {seen : List Nat} {p : AV × St} : ∀ {l : List Ent}, p ∈ altsE r m since clock seen s l → ∃ o, p.2 = (s.see m).set r o
  | x :: l, h => by
    rcases List.mem_cons.1 h with rfl | h
    · exact ⟨_, rfl⟩
    · exact altsE_all h
theorem two_ne {l : List Ent} (h : two l = true) : l ≠ [] := by intro e; subst e; cases h
theorem nextAlts_ne {r : Nat} {L : List (AV × St)} (h : nextAlts r s = some L) : L ≠ [] := by
  obtain ⟨o, ho, h1⟩ := oc_some h
  rcases iterU_some h1 with ⟨m, since, seen, last, rfl, h2⟩ | ⟨m, since, seen, last, t, rfl, h2⟩
  · cases m with
    | none => cases h2
    | some m =>
      obtain ⟨o2, ho2, h3⟩ := oc_some h2
      obtain ⟨es, clock, rfl, h4⟩ := mapC_some h3
      obtain ⟨hcond, h5⟩ := bc_some h4
      obtain ⟨htwo, h6⟩ := bc_some h5
      obtain ⟨hold, h7⟩ := bc_some h6
      cases h7
      obtain ⟨e0, he0⟩ := List.exists_mem_of_ne_nil _ (two_ne htwo)
      exact List.ne_nil_of_mem (altsE_mem he0)
  · obtain ⟨o2, ho2, h3⟩ := oc_some h2
    rcases mapU_some h3 with ⟨es, clock, rfl, h4⟩ | ⟨es, K, t', rfl, h4⟩
    · cases h4
    · obtain ⟨htt, h4'⟩ := bc_some h4
      obtain ⟨hcond, h5⟩ := bc_some h4'
      obtain ⟨htwo, h6⟩ := bc_some h5
      obtain ⟨hold, h7⟩ := bc_some h6
      cases h7
      obtain ⟨e0, he0⟩ := List.exists_mem_of_ne_nil _ (two_ne htwo)
      exact List.ne_nil_of_mem (altsU_mem he0)
/-- One of the ways. -/
theorem nextAlts_ok {r : Nat} {L : List (AV × St)} (h : nextAlts r s = some L) :
    (∀ p ∈ L, Step s p.2) ∧ ∀ {G B E w b} (ty : TypeId), (∀ p ∈ L, ∀ j, In p.2.l j → G j) → Sat G B E s w → (E r).at b → ∃ p ∈ L, Ok1 P G B p.2 p.1 E w (Instr.next (.pointer (some ⟨b, 0, none⟩)) false ty) := by
  obtain ⟨o, ho, h1⟩ := oc_some h
  rcases iterU_some h1 with ⟨m, since, seen, last, rfl, h2⟩ | ⟨m, since, seen, last, t, rfl, h2⟩
  · cases m with
    | none => cases h2
    | some m =>
      obtain ⟨o2, ho2, h3⟩ := oc_some h2
      obtain ⟨es, clock, rfl, h4⟩ := mapC_some h3
      obtain ⟨hcond, h5⟩ := bc_some h4
      obtain ⟨htwo, h6⟩ := bc_some h5
      obtain ⟨hold, h7⟩ := bc_some h6
      clear h h1 h2 h3 h4 h5 h6
      cases h7
      refine ⟨fun p hp => by obtain ⟨o, e⟩ := altsE_all hp; rw [e]; exact (Step.see _ _).trans (Step.set _ _ _), fun {G B E w b} ty hG hs hb => ?_⟩
      obtain ⟨e0, he0⟩ := List.exists_mem_of_ne_nil _ (two_ne htwo)
      have hg0 := hG _ (altsE_mem he0)
      have hgr : G r := hg0 _ (in_set (s.see m) r _)
      have hgm : G m := hg0 _ ((in_lor _ _ _).2 (.inl (in_see _ _)))
      obtain ⟨b', C, ob, he, hh, hok, _⟩ := hs.fact r _ hgr ho
      obtain ⟨m', rfl, bm, rfl, hbm⟩ := hok
      obtain rfl := hs.at_live he hb
      obtain ⟨Cm, a, hem, hhm, hes⟩ := hs.map hgm ho2 hbm
      have hc : (!seen.toArray.isEmpty && !a.isEmpty && a.all fun e => decide (e.born ≥ last)) = false := by
        rw [allFrom_ok last hes] at hcond
        have hl := hes.get
        have hemp : a.isEmpty = es.isEmpty := by
          rw [Bool.eq_iff_iff, Array.isEmpty_iff_size_eq_zero, List.isEmpty_iff, ← List.length_eq_zero_iff, hl, Array.length_toList]
        rw [← Array.all_toList, hemp]
        cases h1 : seen.isEmpty <;> cases h2 : es.isEmpty <;> simp_all
      have hlf := leftE_ok seen hes
      obtain ⟨y, hy, n, hrun⟩ := (run_next_map (P := P) hh hhm hc ty).2 (fun y hy => by
        obtain ⟨x, hx, _, _, hb⟩ := hlf.mem hy
        rw [← hb]; exact allOld_ok hold x hx) (by
        intro hx; rw [hx] at hlf
        cases hlf' : leftE seen es with
        | nil => exact two_ne htwo hlf'
        | cons u v => rw [hlf'] at hlf; cases hlf)
      obtain ⟨x, hx, q1, q2, q3⟩ := hlf.mem hy
      refine ⟨_, altsE_mem hx, ?_⟩
      have hset : OkObj E r (.iter (some m) since (seen ++ [x.born]) clock) (.mapIter (some bm) since (seen.toArray.push y.born) clock) := ⟨some bm, by rw [q3]; simp, bm, rfl, by rw [hem]; rfl⟩
      obtain ⟨k1, k2⟩ := ((hs.seen m).drew n).write (o' := .iter (some m) since (seen ++ [x.born]) clock) hgr ho rfl he hset
      exact ⟨E, _, _, hrun, .tuple (.cons (.bool _) (.cons q1 (.cons q2 .nil))), k1, (Ext.drew _ n).trans k2 (fun _ h => h)⟩
  · obtain ⟨o2, ho2, h3⟩ := oc_some h2
    rcases mapU_some h3 with ⟨es, clock, rfl, h4⟩ | ⟨es, K, t', rfl, h4⟩
    · cases h4
    · obtain ⟨htt, h4'⟩ := bc_some h4
      obtain ⟨hcond, h5⟩ := bc_some h4'
      obtain ⟨htwo, h6⟩ := bc_some h5
      obtain ⟨hold, h7⟩ := bc_some h6
      clear h h1 h2 h3 h4 h4' h5 h6
      have htt' : t = t' := by simpa using htt
      subst htt'
      cases h7
      refine ⟨fun p hp => by obtain ⟨o, e⟩ := altsU_all hp; rw [e]; exact (Step.see _ _).trans (Step.set _ _ _), fun {G B E w b} ty hG hs hb => ?_⟩
      obtain ⟨e0, he0⟩ := List.exists_mem_of_ne_nil _ (two_ne htwo)
      have hg0 := hG _ (altsU_mem he0)
      have hgr : G r := hg0 _ (in_set (s.see m) r _)
      have hgm : G m := hg0 _ ((in_lor _ _ _).2 (.inl (in_see _ _)))
      obtain ⟨C, bm, Cm, a, l, he, hh, hem, hhm, hes, hp, hl, hn1, hn2, hc⟩ := hs.uiter hgr hgm ho ho2 hb hcond
      have hlf := leftES_ok seen hl
      have hq := (hp.filter fun e => !(seen.map (E.st t).f).toArray.contains e.born)
      have hmem : ∀ y ∈ a.toList.filter (fun e => !(seen.map (E.st t).f).toArray.contains e.born), ∃ x ∈ leftE seen es, Rel E x.key y.key ∧ Rel E x.val y.val ∧ y.born = (E.st t).f x.born := fun y hy => hlf.mem (hq.mem_iff.2 hy)
      obtain ⟨y, hy, n, hrun⟩ := (run_next_map (P := P) hh hhm hc ty).2 (fun y hy => by
        obtain ⟨x, hx, _, _, hb⟩ := hmem y hy
        rw [hb]; exact ((E.st t).lt_iff hn1).2 (allOld_ok hold x hx)) (by
        intro hx
        rw [hx] at hq
        rw [hq.eq_nil] at hlf
        cases hlf' : leftE seen es with
        | nil => exact two_ne htwo hlf'
        | cons u v => rw [hlf'] at hlf; cases hlf)
      obtain ⟨x, hx, q1, q2, q3⟩ := hmem y hy
      refine ⟨_, altsU_mem hx, ?_⟩
      have hset : OkObj E r (.uiter m since (seen ++ [x.born]) K t) (.mapIter (some bm) ((E.st t).f since) ((seen.map (E.st t).f).toArray.push y.born) ((E.st t).f K)) := ⟨bm, by rw [q3]; simp, by rw [hem]; rfl, hes.tag, hn1, hes.le⟩
      obtain ⟨k1, k2⟩ := ((hs.seen m).drew n).write (o' := .uiter m since (seen ++ [x.born]) K t) hgr ho rfl he hset
      exact ⟨E, _, _, hrun, .tuple (.cons (.bool _) (.cons q1 (.cons q2 .nil))), k1, (Ext.drew _ n).trans k2 (fun _ h => h)⟩
theorem nextM_ok {r : Nat} (h : nextM r s = some (v, s')) :
    Step s s' ∧ ∀ {G B E w b} (ty : TypeId), (∀ j, In s'.l j → G j) → Sat G B E s w → (E r).at b → Ok1 P G B s' v E w (Instr.next (.pointer (some ⟨b, 0, none⟩)) false ty) := by
  obtain ⟨o, ho, h1⟩ := oc_some h
  rcases iterU_some h1 with ⟨m, since, seen, last, rfl, h2⟩ | ⟨m, since, seen, last, t, rfl, h2⟩
  · skip
    clear h h1
    cases m with
    | none =>
      cases h2
      refine ⟨Step.see _ _, fun {G B E w b} ty hG hs hb => ?_⟩
      obtain ⟨b', C, ob, he, hh, hok, _⟩ := hs.fact r _ (hG _ (in_see _ _)) ho
      obtain ⟨m', rfl, rfl⟩ := hok
      obtain rfl := hs.at_live he hb
      have hget := run_getObj_of (P := P) hh (fun _ _ _ e => by cases e)
      exact Ok1.pure (hs.seen r) (v' := .tuple #[.bool false]) (by simp [Instr.next, hget]) (.tuple (.cons (.bool _) .nil))
    | some m =>
      obtain ⟨o2, ho2, h3⟩ := oc_some h2
      obtain ⟨es, clock, rfl, h4⟩ := mapC_some h3
      obtain ⟨hcond, h5⟩ := bc_some h4
      clear h2 h3 h4
      have common : ∀ {G B E w b}, G r → G m → Sat G B E s w → (E r).at b → ∃ C bm Cm a, E r = .live b C ∧ w.heap[b]? = some (.mapIter (some bm) since seen.toArray last) ∧ E m = .live bm Cm ∧ w.heap[bm]? = some (.map a clock) ∧ RelE E es a.toList ∧
          (getObj b).run P w = .ok (.mapIter (some bm) since seen.toArray last) w ∧ (getObj bm).run P w = .ok (.map a clock) w ∧
          (!seen.toArray.isEmpty && !a.isEmpty && a.all fun e => decide (e.born ≥ last)) = false := by
        intro G B E w b hgr hgm hs hb
        obtain ⟨b', C, ob, he, hh, hok, _⟩ := hs.fact r _ hgr ho
        obtain ⟨m', rfl, bm, rfl, hbm⟩ := hok
        obtain rfl := hs.at_live he hb
        obtain ⟨Cm, a, hem, hhm, hes⟩ := hs.map hgm ho2 hbm
        refine ⟨C, bm, Cm, a, he, hh, hem, hhm, hes, run_getObj_of hh (fun _ _ _ e => by cases e), run_getObj_of hhm (fun _ _ _ e => by cases e), ?_⟩
        rw [allFrom_ok last hes] at hcond
        have hl := hes.get
        have hemp : a.isEmpty = es.isEmpty := by
          rw [Bool.eq_iff_iff, Array.isEmpty_iff_size_eq_zero, List.isEmpty_iff, ← List.length_eq_zero_iff, hl, Array.length_toList]
        rw [← Array.all_toList, hemp]
        cases h1 : seen.isEmpty <;> cases h2 : es.isEmpty <;> simp_all
      unfold nextE at h5
      split at h5
      · rename_i hleft
        cases h5
        refine ⟨(Step.see _ _).trans (Step.see _ _), fun {G B E w b} ty hG hs hb => ?_⟩
        obtain ⟨C, bm, Cm, a, he, hh, hem, hhm, hes, hg1, hg2, hc⟩ := common (hG _ (in_see _ _)) (hG _ ((in_lor _ _ _).2 (.inl (in_see _ _)))) hs hb
        have hl := leftE_ok seen hes
        rw [hleft] at hl
        have hfil : a.filter (fun e => !seen.toArray.contains e.born) = #[] := by
          apply Array.ext'
          rw [Array.toList_filter]
          cases hq : a.toList.filter (fun e => !seen.toArray.contains e.born) with
          | nil => rfl
          | cons x t => rw [hq] at hl; cases hl
        refine Ok1.pure ((hs.seen m).seen r) (v' := .tuple #[.bool false]) ?_ (.tuple (.cons (.bool _) .nil))
        simp only [Instr.next, Sem.run_bind, hg1, hg2, Result.andThen_ok, hc, Bool.false_eq_true, if_false, Sem.run_pure, hfil]
        simp [Question.forced]
      · rename_i e hleft
        obtain ⟨hborn, h6⟩ := bc_some h5
        cases h6
        refine ⟨(Step.see _ _).trans (Step.set _ _ _), fun {G B E w b} ty hG hs hb => ?_⟩
        have hgr := hG _ (in_set (s.see m) r _)
        obtain ⟨C, bm, Cm, a, he, hh, hem, hhm, hes, hg1, hg2, hc⟩ := common hgr (hG _ ((in_lor _ _ _).2 (.inl (in_see _ _)))) hs hb
        have hl := leftE_ok seen hes
        rw [hleft] at hl
        have hborn' : e.born < since := by simpa using hborn
        obtain ⟨e', hfil, hkey, hval, hbb⟩ : ∃ e', a.filter (fun e => !seen.toArray.contains e.born) = #[e'] ∧ Rel E e.key e'.key ∧ Rel E e.val e'.val ∧ e.born = e'.born := by
          cases hq : a.toList.filter (fun e => !seen.toArray.contains e.born) with
          | nil => rw [hq] at hl; cases hl
          | cons x t =>
            rw [hq] at hl
            cases hl with
            | cons q1 q2 q3 q4 =>
              cases q4
              refine ⟨x, ?_, q1, q2, q3⟩
              apply Array.ext'
              rw [Array.toList_filter, hq]
        have hset : OkObj E r (.iter (some m) since (seen ++ [e.born]) clock) (.mapIter (some bm) since (seen.toArray.push e'.born) clock) := ⟨some bm, by rw [hbb]; simp, bm, rfl, by rw [hem]; rfl⟩
        obtain ⟨k1, k2⟩ := (hs.seen m).write (o' := .iter (some m) since (seen ++ [e.born]) clock) hgr ho rfl he hset
        refine ⟨E, .tuple #[.bool true, e'.key, e'.val], _, ?_, .tuple (.cons (.bool _) (.cons hkey (.cons hval .nil))), k1, k2⟩
        have hst := run_setObj_of (P := P) (.mapIter (some bm) since (seen.toArray.push e'.born) clock) hh (fun _ _ _ e => by cases e)
        have hb1 : e'.born < since := by omega
        simp only [Instr.next, Sem.run_bind, hg1, hg2, Result.andThen_ok, hc, Bool.false_eq_true, if_false, Sem.run_pure, hfil]
        have hnb : ¬ (since ≤ e'.born) := by omega
        simp at hst
        simp [Question.forced, hb1, hnb, hst]
      · cases h5
  · obtain ⟨o2, ho2, h3⟩ := oc_some h2
    rcases mapU_some h3 with ⟨es, clock, rfl, h4⟩ | ⟨es, K, t', rfl, h4⟩
    · cases h4
    · obtain ⟨htt, h5⟩ := bc_some h4
      obtain ⟨hcond, h6⟩ := bc_some h5
      have htt' : t = t' := by simpa using htt
      subst htt'
      exact nextUE_ok ho ho2 hcond h6
theorem nextA_ok {x : AV} {isS : Bool} (h : nextA x isS s = some (v, s')) :
    Step s s' ∧ ∀ {G B E w x'} (ty : TypeId), (∀ j, In s'.l j → G j) → Sat G B E s w → Rel E x x' → Ok1 P G B s' v E w (Instr.next x' isS ty) := by
  obtain ⟨r, off, rfl, h1⟩ := ptrC_some h
  obtain ⟨hoff, h2⟩ := bc_some h1
  have hoff' : off = 0 := by simpa using hoff
  subst hoff'
  cases isS with
  | true =>
    obtain ⟨q1, q2⟩ := nextS_ok (P := P) h2
    exact ⟨q1, fun ty hG hs hx => by cases hx; rename_i b hb; exact q2 ty hG hs hb⟩
  | false =>
    obtain ⟨q1, q2⟩ := nextM_ok (P := P) h2
    exact ⟨q1, fun ty hG hs hx => by cases hx; rename_i b hb; exact q2 ty hG hs hb⟩
theorem lastN_ok : ∀ {l : List Nat} {n : Nat}, lastN l = some n → l.toArray.back? = some n
  | [], _, h => by cases h
  | [x], n, h => by cases h; rfl
  | x :: y :: l, n, h => by
    have := lastN_ok (l := y :: l) (n := n) h
    simpa using this
theorem bornE_ok (n : Nat) : ∀ {es : List Ent} {es' : List MapEntry} {e : Ent}, bornE n es = some e → RelE E es es' → ∃ e', es'.find? (fun x => x.born == n) = some e' ∧ Rel E e.key e'.key ∧ Rel E e.val e'.val
  | _, _, _, h, .nil => by cases h
  | _, _, _, h, .cons h1 h2 h3 t => by
    simp only [bornE] at h
    split at h
    · rename_i hb
      cases h
      rw [h3] at hb
      exact ⟨_, by rw [List.find?_cons_of_pos (by simpa using hb)], h1, h2⟩
    · rename_i hb
      rw [h3] at hb
      obtain ⟨e', q1, q2⟩ := bornE_ok n h t
      refine ⟨e', ?_, q2⟩
      rw [List.find?_cons_of_neg]
      · exact q1
      · intro hc
        have hc' := eq_of_beq hc
        rw [hc'] at hb; simp at hb
theorem bornE_mem (n : Nat) : ∀ {es : List Ent} {e : Ent}, bornE n es = some e → e ∈ es ∧ e.born = n
  | x :: es, e, h => by
    simp only [bornE] at h
    split at h
    · rename_i hb; cases h; exact ⟨List.mem_cons_self .., by simpa using hb⟩
    · obtain ⟨h1, h2⟩ := bornE_mem n h; exact ⟨List.mem_cons_of_mem _ h1, h2⟩
theorem born_once : ∀ {es : List Ent} {x y : Ent}, (es.map Ent.born).Nodup → x ∈ es → y ∈ es → x.born = y.born → x = y
  | e :: es, x, y, h, hx, hy, hb => by
    rw [List.map_cons, List.nodup_cons] at h
    rcases List.mem_cons.1 hx with rfl | hx' <;> rcases List.mem_cons.1 hy with rfl | hy'
    · rfl
    · exact absurd (List.mem_map.2 ⟨y, hy', hb.symm⟩) h.1
    · exact absurd (List.mem_map.2 ⟨x, hx', hb⟩) h.1
    · exact born_once h.2 hx' hy' hb
theorem bornES_ok {S : Stamps} (n : Nat) {es : List Ent} {l m : List MapEntry} {e : Ent} (h : bornE n es = some e) (hl : RelS E S es l) (hp : l.Perm m) (hn : (es.map Ent.born).Nodup) : ∃ e', m.find? (fun x => x.born == S.f n) = some e' ∧ Rel E e.key e'.key ∧ Rel E e.val e'.val := by
  obtain ⟨h1, h2⟩ := bornE_mem n h
  obtain ⟨j, hj⟩ := List.getElem?_of_mem h1
  obtain ⟨y, hy, q1, q2, q3⟩ := (hl.at j).1 e hj
  have hym : y ∈ m := hp.mem_iff.1 (List.mem_of_getElem? hy)
  cases hf : m.find? (fun x => x.born == S.f n) with
  | none =>
    have := List.find?_eq_none.1 hf y hym
    rw [q3, h2] at this; simp at this
  | some z =>
    have hz := List.find?_some hf
    have hzm := List.mem_of_find?_eq_some hf
    obtain ⟨x, hx, r1, r2, r3⟩ := hl.mem (hp.mem_iff.2 hzm)
    have hb : S.f x.born = S.f n := by rw [← r3]; simpa using hz
    have : x = e := born_once hn hx h1 (by rw [S.inj _ _ hb, h2])
    subst this
    exact ⟨z, rfl, r1, r2⟩
theorem entryA_ok {x : AV} (h : entryA x s = some (v, s')) :
    Step s s' ∧ ∀ {G B E w x'}, (∀ j, In s'.l j → G j) → Sat G B E s w → Rel E x x' → Ok1 P G B s' v E w (Instr.entry x') := by
  obtain ⟨r, off, rfl, h1⟩ := ptrC_some h
  obtain ⟨hoff, h2⟩ := bc_some h1
  obtain ⟨o, ho, h3⟩ := oc_some h2
  rcases iterU_some h3 with ⟨m, since, seen, last, rfl, h4⟩ | ⟨m, since, seen, last, t, rfl, h4⟩
  · skip
    obtain ⟨m', hm, h5⟩ := oc_some h4
    obtain ⟨stamp, hstamp, h6⟩ := oc_some h5
    obtain ⟨o2, ho2, h7⟩ := oc_some h6
    obtain ⟨es, clock, rfl, h8⟩ := mapC_some h7
    obtain ⟨hcl, h9⟩ := bc_some h8
    obtain ⟨e, hbe, h10⟩ := oc_some h9
    clear h h1 h2 h3 h4 h5 h6 h7 h8 h9
    cases h10
    subst hm
    have hoff' : off = 0 := by simpa using hoff
    subst hoff'
    refine ⟨(Step.see _ _).trans (Step.see _ _), fun {G B E w x'} hG hs hx => ?_⟩
    cases hx
    rename_i b hb
    obtain ⟨b', C, ob, he, hh, hok, _⟩ := hs.fact r _ (hG _ ((in_lor _ _ _).2 (.inl (in_see _ _)))) ho
    obtain ⟨mm, rfl, bm, rfl, hbm⟩ := hok
    obtain rfl := hs.at_live he hb
    obtain ⟨Cm, a, hem, hhm, hes⟩ := hs.map (hG _ (in_see _ _)) ho2 hbm
    obtain ⟨e', hf, q1, q2⟩ := bornE_ok stamp hbe hes
    have hg1 := run_getObj_of (P := P) hh (fun _ _ _ e => by cases e)
    have hg2 := run_getObj_of (P := P) hhm (fun _ _ _ e => by cases e)
    have hcl' : clock = last := by simpa using hcl
    subst hcl'
    have hfa : a.find? (fun x => x.born == stamp) = some e' := by rw [← Array.find?_toList]; exact hf
    refine Ok1.pure ((hs.seen r).seen m') (v' := .tuple #[e'.key, e'.val]) ?_ (.tuple (.cons q1 (.cons q2 .nil)))
    simp only [Instr.entry, Sem.run_bind, hg1, Result.andThen_ok, lastN_ok hstamp, hg2, bne_self_eq_false, Bool.false_eq_true, if_false, hfa, Sem.run_pure]
  · obtain ⟨stamp, hstamp, h6⟩ := oc_some h4
    obtain ⟨o2, ho2, h7⟩ := oc_some h6
    rcases mapU_some h7 with ⟨es, clock, rfl, h8⟩ | ⟨es, K, t', rfl, h8⟩
    · cases h8
    · obtain ⟨htt, h8'⟩ := bc_some h8
      obtain ⟨hcl, h9⟩ := bc_some h8'
      obtain ⟨e, hbe, h10⟩ := oc_some h9
      clear h h1 h2 h3 h4 h6 h7 h8 h8' h9
      cases h10
      have hoff' : off = 0 := by simpa using hoff
      subst hoff'
      have htt' : t = t' := by simpa using htt
      subst htt'
      have hcl' : K = last := by simpa using hcl
      subst hcl'
      refine ⟨(Step.see _ _).trans (Step.see _ _), fun {G B E w x'} hG hs hx => ?_⟩
      cases hx
      rename_i b hb
      obtain ⟨b', C, ob, he, hh, hok, _⟩ := hs.fact r _ (hG _ ((in_lor _ _ _).2 (.inl (in_see _ _)))) ho
      obtain ⟨bm, rfl, hbm, _, hn1, hn2⟩ := hok
      obtain rfl := hs.at_live he hb
      obtain ⟨Cm, a, hem, hhm, hes⟩ := hs.umap (hG _ (in_see _ _)) ho2 hbm
      obtain ⟨l, hp, hl⟩ := hes.rel
      obtain ⟨e', hf, q1, q2⟩ := bornES_ok stamp hbe hl hp hes.once
      have hg1 := run_getObj_of (P := P) hh (fun _ _ _ e => by cases e)
      have hg2 := run_getObj_of (P := P) hhm (fun _ _ _ e => by cases e)
      have hfa : a.find? (fun x => x.born == (E.st t).f stamp) = some e' := by rw [← Array.find?_toList]; exact hf
      have hback : (seen.map (E.st t).f).toArray.back? = some ((E.st t).f stamp) := by
        have := lastN_ok hstamp
        simp at this ⊢
        simp [this]
      refine Ok1.pure ((hs.seen r).seen m) (v' := .tuple #[e'.key, e'.val]) ?_ (.tuple (.cons q1 (.cons q2 .nil)))
      simp only [Instr.entry, Sem.run_bind, hg1, Result.andThen_ok, hback, hg2, bne_self_eq_false, Bool.false_eq_true, if_false, hfa, Sem.run_pure]
theorem lenA_ok {ts : Array TypeId} {ty : TypeId} {x : AV} (h : lenA P ts.toList x s = some (v, s')) :
    Step s s' ∧ ∀ {G B E w x'}, (∀ j, In s'.l j → G j) → Sat G B E s w → Rel E x x' → Ok1 P G B s' v E w (Builtin.len_ ts ty #[x']) := by
  unfold lenA at h
  split at h
  case h_2 => cases h
  rename_i t rst hts
  have hts0 : ts[0]? = some t := by rw [← Array.getElem?_toList, hts]; rfl
  split at h
  · rename_i l hu
    cases h
    refine ⟨Step.refl _, fun {G B E w x'} hG hs hx => ?_⟩
    cases hx
    have hsz : (ByteArray.mk l.toArray).size = l.length := by simp [ByteArray.size]
    exact Ok1.pure hs (v' := .int .i64 (l.length : Int)) (by simp [Builtin.len_, hts0, und_run hu, goInt, hsz]) (.int _ _)
  · rename_i ps hu
    cases h
    refine ⟨Step.refl _, fun {G B E w x'} hG hs hx => ?_⟩
    cases hx
    have hsz : (ByteArray.mk (psVal E.ρ ps).toArray).size = (psVal E.ρ ps).length := by simp [ByteArray.size]
    exact Ok1.pure hs (v' := .int .i64 ((psVal E.ρ ps).length : Nat)) (by simp [Builtin.len_, hts0, und_run hu, goInt, hsz]) (lenV_ok hs.orc _)
  · rename_i e i ps hu
    cases h
    refine ⟨Step.refl _, fun {G B E w x'} hG hs hx => ?_⟩
    cases hx
    exact Ok1.pure hs (v' := .int .i64 ((psVal E.ρ ps).length : Nat)) (by simp [Builtin.len_, hts0, und_run hu, goInt]) (lenV_ok hs.orc _)
  · rename_i e hu
    cases h
    refine ⟨Step.refl _, fun {G B E w x'} hG hs hx => ?_⟩
    cases hx
    exact Ok1.pure hs (v' := .int .i64 (0 : Nat)) (by simp [Builtin.len_, hts0, und_run hu, goInt]) (.int _ _)
  · rename_i e hu
    cases h
    refine ⟨Step.refl _, fun {G B E w x'} hG hs hx => ?_⟩
    cases hx
    exact Ok1.pure hs (v' := .int .i64 (0 : Nat)) (by simp [Builtin.len_, hts0, und_run hu, goInt]) (.int _ _)
  · rename_i e i off n cap dr hu
    cases h
    refine ⟨Step.refl _, fun {G B E w x'} hG hs hx => ?_⟩
    cases hx
    exact Ok1.pure hs (v' := .int .i64 (n : Int)) (by simp [Builtin.len_, hts0, und_run hu, goInt]) (.int _ _)
  · rename_i e i off n hu
    cases h
    refine ⟨Step.refl _, fun {G B E w x'} hG hs hx => ?_⟩
    cases hx
    exact Ok1.pure hs (v' := .int .i64 (n : Int)) (by simp [Builtin.len_, hts0, und_run hu, goInt]) (.int _ _)
  · rename_i e n hu
    cases h
    refine ⟨Step.refl _, fun {G B E w x'} hG hs hx => ?_⟩
    cases hx
    rename_i a k c hk
    exact Ok1.pure hs (v' := .int .i64 (k : Int)) (by simp [Builtin.len_, hts0, und_run hu, goInt]) (numV_ok hk)
  · rename_i e i n hu
    cases h
    refine ⟨Step.refl _, fun {G B E w x'} hG hs hx => ?_⟩
    cases hx
    rename_i b c N hb hc hN
    refine Ok1.pure hs (v' := .int .i64 (N : Int)) (by simp [Builtin.len_, hts0, und_run hu, goInt]) ?_
    rw [← hN]
    exact .sint _ _
  · rename_i k e hu
    cases h
    refine ⟨Step.refl _, fun {G B E w x'} hG hs hx => ?_⟩
    cases hx
    exact Ok1.pure hs (v' := .int .i64 (0 : Nat)) (by simp [Builtin.len_, hts0, und_run hu, goInt]) (.int _ _)
  · rename_i k e i hu
    obtain ⟨o, ho, h1⟩ := oc_some h
    rcases mapU_some h1 with ⟨es, clock, rfl, h2⟩ | ⟨es, K, t', rfl, h2⟩
    · cases h2
      refine ⟨Step.see _ _, fun {G B E w x'} hG hs hx => ?_⟩
      cases hx
      rename_i b hb
      obtain ⟨C, a, he, hh, hes⟩ := hs.map (hG _ (in_see _ _)) ho hb
      have hl := hes.get
      have hg := run_getObj_of (P := P) hh (fun _ _ _ e => by cases e)
      refine Ok1.pure (hs.seen i) (v' := .int .i64 (es.length : Int)) ?_ (.int _ _)
      simp [Builtin.len_, hts0, und_run hu, goInt, hg]
      simp at hl; omega
    · cases h2
      refine ⟨Step.see _ _, fun {G B E w x'} hG hs hx => ?_⟩
      cases hx
      rename_i b hb
      obtain ⟨C, a, he, hh, hes⟩ := hs.umap (hG _ (in_see _ _)) ho hb
      obtain ⟨l, hp, hl⟩ := hes.rel
      have hl := hl.len.trans hp.length_eq
      have hg := run_getObj_of (P := P) hh (fun _ _ _ e => by cases e)
      refine Ok1.pure (hs.seen i) (v' := .int .i64 (es.length : Int)) ?_ (.int _ _)
      simp [Builtin.len_, hts0, und_run hu, goInt, hg]
      simp at hl; omega
  · rename_i xx n e hu
    cases h
    refine ⟨Step.refl _, fun {G B E w x'} hG hs hx => ?_⟩
    exact Ok1.pure hs (v' := .int .i64 (n : Int)) (by cases x' <;> simp [Builtin.len_, hts0, und_run hu, goInt]) (.int _ _)
  · cases h
theorem capA_ok {ts : Array TypeId} {ty : TypeId} {x : AV} (h : capA P ts.toList x s = some (v, s')) :
    Step s s' ∧ ∀ {G B E w x'}, (∀ j, In s'.l j → G j) → Sat G B E s w → Rel E x x' → Ok1 P G B s' v E w (Builtin.cap_ ts ty #[x']) := by
  unfold capA at h
  split at h
  case h_2 => cases h
  rename_i t rst i off len c dr hts
  have hts0 : ts[0]? = some t := by rw [← Array.getElem?_toList, hts]; rfl
  split at h
  case h_2 => cases h
  rename_i e hu
  cases h
  refine ⟨Step.refl _, fun {G B E w x'} hG hs hx => ?_⟩
  cases hx
  rename_i b c' hb hc
  cases hc
  exact Ok1.pure hs (v' := .int .i64 (c : Int)) (by simp [Builtin.cap_, hts0, und_run hu, goInt]) (.int _ _)
theorem zeroCells_rel {z : AV} {zv : Value} (hr : Rel E z zv) (n : Nat) (hpos : 0 < z.cells.length) : RelL E (repL z.cells n) (Builtin.zeroCells zv.cells n).toList := by
  have hl := hr.cells.length
  simp only [Array.length_toList] at hl
  have := repL_rel hr (n := n) (k := z.cells.length) rfl hpos
  rw [hl] at this
  exact this
theorem clearA_ok {ts : Array TypeId} {ty : TypeId} {x : AV} (h : clearA P ts.toList x s = some (v, s')) :
    Step s s' ∧ ∀ {G B E w x'}, (∀ j, In s'.l j → G j) → Sat G B E s w → Rel E x x' → Ok1 P G B s' v E w (Builtin.clear_ ts ty #[x']) := by
  unfold clearA at h
  split at h
  case h_2 => cases h
  rename_i t rst hts
  have hts0 : ts[0]? = some t := by rw [← Array.getElem?_toList, hts]; rfl
  split at h
  · rename_i d hu
    cases h
    refine ⟨Step.refl _, fun {G B E w x'} hG hs hx => ?_⟩
    cases hx
    exact Ok1.pure hs (v' := .tuple #[]) (by simp [Builtin.clear_, hts0, und_run hu]) (.tuple .nil)
  · rename_i d hu
    cases h
    refine ⟨Step.refl _, fun {G B E w x'} hG hs hx => ?_⟩
    cases hx
    exact Ok1.pure hs (v' := .tuple #[]) (by simp [Builtin.clear_, hts0, und_run hu]) (.tuple .nil)
  · rename_i d i hu
    obtain ⟨o, ho, h1⟩ := oc_some h
    obtain ⟨es, clock, rfl, h2⟩ := mapC_some h1
    cases h2
    refine ⟨Step.set _ _ _, fun {G B E w x'} hG hs hx => ?_⟩
    cases hx
    rename_i b hb
    have hgi := hG _ (in_set _ _ _)
    obtain ⟨C, a, he, hh, hes⟩ := hs.map hgi ho hb
    have hg := run_getObj_of (P := P) hh (fun _ _ _ e => by cases e)
    obtain ⟨k1, k2⟩ := hs.write (o' := .map [] clock) (ob' := .map #[] clock) hgi ho rfl he ⟨#[], rfl, .nil⟩
    have hst := run_setObj_of (P := P) (.map #[] clock) hh (fun _ _ _ e => by cases e)
    exact ⟨E, .tuple #[], _, by simp [Builtin.clear_, hts0, und_run hu, hg, hst], .tuple .nil, k1, k2⟩
  · rename_i e i off n cap dr hu
    cases hn : Nat.beq n 0 with
    | true =>
      rw [show Nat.beq n (nat_lit 0) = Nat.beq n 0 from rfl, hn, bi_true] at h
      cases h
      have hn' : n = 0 := by simpa using hn
      subst hn'
      refine ⟨Step.refl _, fun {G B E w x'} hG hs hx => ?_⟩
      cases hx
      exact Ok1.pure hs (v' := .tuple #[]) (by simp [Builtin.clear_, hts0, und_run hu]) (.tuple .nil)
    | false =>
      rw [show Nat.beq n (nat_lit 0) = Nat.beq n 0 from rfl, hn, bi_false] at h
      obtain ⟨z, hz, h1⟩ := oc_some h
      obtain ⟨hpos, h2⟩ := bc_some h1
      obtain ⟨s2, hs2, h3⟩ := oc_some h2
      cases h3
      have hn' : n ≠ 0 := fun e => by subst e; simp at hn
      refine ⟨storeN_step hs2, fun {G B E w x'} hG hs hx => ?_⟩
      cases hx
      rename_i b c hb hc
      obtain ⟨zv, hzr, hzrel⟩ := zeroOf_run hz
      obtain ⟨b', C, w', he, hrun, k1, k2⟩ := hs.storeN (P := P) hG hs2 (zeroCells_rel (hzrel E) n (by simpa using hpos))
      obtain rfl := hs.at_live he hb
      obtain ⟨n', rfl⟩ := Nat.exists_eq_succ_of_ne_zero hn'
      exact ⟨E, .tuple #[], w', by simp [Builtin.clear_, hts0, und_run hu, hzr, hrun], .tuple .nil, k1, k2⟩
  · cases h
end
end Ev
end Go.Proofs.YtnjpdipombnigaaGreatDoor
