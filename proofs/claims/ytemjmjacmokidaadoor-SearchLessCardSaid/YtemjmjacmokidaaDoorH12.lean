import Derived.Test.YtemjmjacmokidaaDoorH11
import Derived.Lib.UnsafeStr
import Derived.Lib.Builder
set_option linter.all false
/-! HL, part 12: each operation does in the model what HL says (8): iterators; all operations. -/
namespace Go.HL
open Go Go.RowKit
variable {P : Program} {C : Cfg} {W0 : World} {G : Ghost} {S : HS} {w : World}

theorem Inv.setIter (hI : Inv C W0 G S w) {r b m bm : Nat} {x : HObj} (hl : S r = some x) (hx : x.heavy = true) (hb : G.blk r = some b) (hm : G.blk m = some bm) (hnr : ∀ o, G.imm b o = none) (hnt : ∀ T, ¬ Typed w b T) (since : Nat) (seen : List Nat) (last : Nat) (seen' : Array Nat) (hs : seen' = seen.toArray) :
    Inv C W0 G (S.set r (.iter m since seen last)) { w with heap := w.heap.setIfInBounds b (.mapIter (some bm) since seen' last) } := by
  have hbd := hI.bnd r b hb
  have hoth : ∀ b', b' ≠ b → (w.heap.setIfInBounds b (.mapIter (some bm) since seen' last))[b']? = w.heap[b']? := fun b' h => by rw [Array.getElem?_setIfInBounds, if_neg (Ne.symm h)]
  refine hI.upd r _ b (.refl G) ⟨rfl, rfl, rfl, by simp, fun k hk => hoth k (by omega)⟩ (fun b' h _ => hoth b' h) (fun _ _ _ => rfl) (fun o y hy => by rw [hnr] at hy; cases hy) hb (fun _ _ => rfl) rfl ?_ ?_ (by simp) ?_ ⟨hbd.1, by simpa using hbd.2⟩ (fun T h => absurd h (hnt T)) (fun T h _ => by rw [h] at hb; cases hb)
  · intro k y hk hS hy hkb
    exact hk (hI.inj k r y x b hS hl hy hx hkb hb)
  · intro t f to z _ ht hs
    exact hI.tb t r x b f to z ht hl hx hs hb
  · intro _
    exact ⟨bm, hm, by simp [hbd.2, hs]⟩

theorem choose_mapNext (n : Nat) (hn : 0 < n) (w : World) : ∃ i w', i < n ∧ (choose (.mapNext n)).run P w = .ok i w' ∧ (w' = w ∨ w' = w.drew) := by
  by_cases h : n ≤ 1
  · exact ⟨0, w, hn, by simp [Question.forced, h], .inl rfl⟩
  · exact ⟨(w.tape w.drawn (.mapNext n)) % n, w.drew, Nat.mod_lt _ hn, by simp [Question.forced, h, Question.cut], .inr rfl⟩

theorem next_ok (hI : Inv C W0 G S w) {x : HV} {y : Value} {T : TypeId} {K : HV → HS → Prop} (h : hnext x S K) (hx : V G x y) :
    ∃ v w' r S', (Instr.next y false T).run P w = .ok v w' ∧ V G r v ∧ K r S' ∧ Inv C W0 G S' w' := by
  unfold hnext at h
  cases hx with
  | @ptr r o b hb =>
    cases o with
    | succ o => exact h.elim
    | zero =>
      simp only at h
      cases hr : S r with
      | none => simp [hr] at h
      | some q =>
        cases q with
        | iter m since seen last =>
          simp only [hr] at h
          obtain ⟨b', hb', bm, hbm, hit⟩ := hI.obj r _ hr rfl
          rw [hb] at hb'; cases hb'
          cases hm : S m with
          | none => simp [hm] at h
          | some q =>
            cases q with
            | map es clock =>
              simp only [hm] at h
              obtain ⟨hg, hover, hall⟩ := h
              obtain ⟨es', g1, g2⟩ := hI.mapAt hm hbm
              have hr1 := getObj_run (P := P) hit (by simp)
              have hr2 := getObj_run (P := P) g1 (by simp)
              have hguard : (!seen.toArray.isEmpty && !es'.isEmpty && es'.all (fun e => decide (e.born ≥ last))) = false := by
                rw [← hg]
                have e1 : seen.toArray.isEmpty = seen.isEmpty := by simp
                have e2 : es'.isEmpty = es.isEmpty := by
                  have h1 := g2.1
                  have e : es'.isEmpty = es'.toList.isEmpty := by simp
                  rw [e]
                  revert h1
                  generalize es'.toList = q
                  intro h1
                  cases es <;> cases q <;> simp at h1 ⊢
                have e3 : es'.all (fun e => decide (e.born ≥ last)) = es.all (fun e => decide (e.born ≥ last)) := by
                  rw [← Array.all_toList]
                  have key : ∀ (es : List HEntry) (es' : List MapEntry), EL G es es' → es'.all (fun e => decide (e.born ≥ last)) = es.all (fun e => decide (e.born ≥ last)) := by
                    intro es
                    induction es with
                    | nil => intro es' he; cases es' with
                      | nil => rfl
                      | cons a b => have := he.1; simp at this
                    | cons e es ih => intro es' he; cases es' with
                      | nil => have := he.1; simp at this
                      | cons a b =>
                        simp only [List.all_cons]
                        rw [ih b he.tail, (he.2 0 e a rfl rfl).2.1]
                  exact key es es'.toList g2
                rw [e1, e2, e3]
              have f1 := filter_EL g2 (fun n => !seen.contains n)
              have f2 := filter_EL f1 (fun n => decide (n < since))
              have f3 := filter_EL f1 (fun n => decide (n ≥ since))
              let old' := (es'.filter fun e => !seen.toArray.contains e.born).filter fun e => decide (e.born < since)
              let new' := (es'.filter fun e => !seen.toArray.contains e.born).filter fun e => decide (e.born ≥ since)
              have eo : old'.toList = (es'.toList.filter fun e => !seen.contains e.born).filter fun e => decide (e.born < since) := by simp [old']
              have en : new'.toList = (es'.toList.filter fun e => !seen.contains e.born).filter fun e => decide (e.born ≥ since) := by simp [new']
              rw [← eo] at f2
              rw [← en] at f3
              let cand : Array (Option MapEntry) := (if old'.isEmpty then #[none] else #[]) ++ (old' ++ new').map some
              have hpos : 0 < cand.size := by
                by_cases ho : old'.isEmpty = true
                · simp [cand, ho]
                  omega
                · have : 0 < old'.size := by
                    rcases Nat.eq_zero_or_pos old'.size with h | h
                    · exact absurd (by simpa using Array.eq_empty_of_size_eq_zero h) ho
                    · exact h
                  simp [cand]
                  omega
              obtain ⟨i, w', hi, hch, hw'⟩ := choose_mapNext (P := P) cand.size hpos w
              have hI' : Inv C W0 G S w' := by rcases hw' with rfl | rfl; exact hI; exact hI.drew
              have hit' : w'.heap[b]? = some (.mapIter (some bm) since seen.toArray last) := by rcases hw' with rfl | rfl <;> exact hit
              have hrun : (Instr.next (.pointer (some ⟨b, 0, none⟩)) false T).run P w = ((match cand[i]? with
                  | some (some e) => do
                    setObj b (.mapIter (some bm) since (seen.toArray.push e.born) clock)
                    pure (.tuple #[.bool true, e.key, e.val])
                  | some none => pure (.tuple #[.bool false])
                  | none => stuck "Next: no such candidate") : Sem Value).run P w' := by
                have hg2 : ¬ ((!seen.toArray.isEmpty && !es'.isEmpty && es'.all (fun e => decide (e.born ≥ last))) = true) := by rw [hguard]; simp
                simp only [Instr.next, Sem.run_bind, hr1, Result.andThen_ok, hr2]
                rw [Sem.run_ite, if_neg hg2]
                simp only [Sem.run_bind, Sem.run_pure, Result.andThen_ok]
                rw [hch]
                rfl
              cases hcd : cand[i]? with
              | none => simp at hcd; omega
              | some q =>
                cases q with
                | none =>
                  have ho : old'.isEmpty = true := by
                    by_cases ho : old'.isEmpty = true
                    · exact ho
                    · exfalso
                      have : cand = (old' ++ new').map some := by simp [cand, ho]
                      rw [this, Array.getElem?_map] at hcd
                      simp only [Option.map_eq_some_iff] at hcd
                      obtain ⟨q, _, hq⟩ := hcd
                      cases hq
                  have hoe : (es.filter fun e => !seen.contains e.born).filter (fun e => decide (e.born < since)) = [] := by
                    apply List.eq_nil_of_length_eq_zero
                    rw [f2.1]
                    simpa using ho
                  refine ⟨.tuple #[.bool false], w', .tup [.bool false], S, ?_, ?_, hover hoe, hI'⟩
                  · rw [hrun, hcd]; rfl
                  · refine .tup rfl (fun i x y h1 h2 => ?_)
                    match i with
                    | 0 => simp at h1 h2; subst h1; subst h2; exact .v rfl
                    | n + 1 => simp at h1
                | some e' =>
                  have hmem : ∃ j : Nat, (old' ++ new').toList[j]? = some e' := by
                    by_cases ho : old'.isEmpty = true
                    · have : cand = #[none] ++ (old' ++ new').map some := by simp [cand, ho]
                      rw [this] at hcd
                      rw [Array.getElem?_append] at hcd
                      split at hcd
                      · rename_i hlt
                        have : i = 0 := by simpa using hlt
                        subst this
                        simp at hcd
                      · rw [Array.getElem?_map] at hcd
                        simp only [Option.map_eq_some_iff, Option.some.injEq] at hcd
                        obtain ⟨q, hq, rfl⟩ := hcd
                        exact ⟨_, by rw [Array.getElem?_toList]; exact hq⟩
                    · have : cand = (old' ++ new').map some := by simp [cand, ho]
                      rw [this, Array.getElem?_map] at hcd
                      simp only [Option.map_eq_some_iff, Option.some.injEq] at hcd
                      obtain ⟨q, hq, rfl⟩ := hcd
                      exact ⟨_, by rw [Array.getElem?_toList]; exact hq⟩
                  obtain ⟨j, hj⟩ := hmem
                  have hel : EL G ((es.filter fun e => !seen.contains e.born).filter (fun e => decide (e.born < since)) ++ (es.filter fun e => !seen.contains e.born).filter (fun e => decide (e.born ≥ since))) (old'.toList ++ new'.toList) := by
                    refine ⟨by simp only [List.length_append, f2.1, f3.1], fun i a c h1 h2 => ?_⟩
                    have hl := f2.1
                    rw [List.getElem?_append] at h1 h2
                    split at h1
                    · rw [if_pos (by omega)] at h2; exact f2.2 i a c h1 h2
                    · rw [if_neg (by omega), ← hl] at h2; exact f3.2 _ a c h1 h2
                  rw [Array.toList_append] at hj
                  have hjl : j < (old'.toList ++ new'.toList).length := (List.getElem?_eq_some_iff.1 hj).1
                  rw [← hel.1] at hjl
                  obtain ⟨e, he⟩ : ∃ e, ((es.filter fun e => !seen.contains e.born).filter (fun e => decide (e.born < since)) ++ (es.filter fun e => !seen.contains e.born).filter (fun e => decide (e.born ≥ since)))[j]? = some e := ⟨_, List.getElem?_eq_getElem hjl⟩
                  obtain ⟨k1, k2, k3, k4⟩ := hel.2 j e e' he hj
                  refine ⟨.tuple #[.bool true, e'.key, e'.val], _, .tup [.bool true, ofVal e.key, e.val], _, ?_, ?_, hall e (List.mem_of_getElem? he),
                    hI'.setIter hr rfl hb hbm (hI'.immIter hit') (notIter hit') since (seen ++ [e.born]) clock (seen.toArray.push e'.born) (by rw [k2]; simp)⟩
                  · rw [hrun, hcd]
                    simp only [Sem.run_bind, setObj_run (P := P) hit' (by simp), Result.andThen_ok, Sem.run_pure]
                  · refine .tup rfl (fun i x y h1 h2 => ?_)
                    match i with
                    | 0 => simp at h1 h2; subst h1; subst h2; exact .v rfl
                    | 1 => simp at h1 h2; subst h1; subst h2; rw [k1]; exact V.ofVal k4
                    | 2 => simp at h1 h2; subst h1; subst h2; exact k3
                    | n + 3 => simp at h1
            | _ => simp [hm] at h
        | _ => simp [hr] at h
  | _ => exact h.elim

theorem entry_ok (hI : Inv C W0 G S w) {x v : HV} {y : Value} (h : hentry x S = some v) (hx : V G x y) : ∃ u, (Instr.entry y).run P w = .ok u w ∧ V G v u := by
  unfold hentry at h
  cases hx with
  | @ptr r o b hb =>
    cases o with
    | succ o => simp at h
    | zero =>
      simp only at h
      cases hr : S r with
      | none => simp [hr] at h
      | some q =>
        cases q with
        | iter m since seen last =>
          simp only [hr] at h
          obtain ⟨b', hb', bm, hbm, hit⟩ := hI.obj r _ hr rfl
          rw [hb] at hb'; cases hb'
          cases hm : S m with
          | none => simp [hm] at h
          | some q =>
            cases q with
            | map es clock =>
              simp only [hm] at h
              obtain ⟨es', g1, g2⟩ := hI.mapAt hm hbm
              split at h
              · rename_i hcl
                cases hs : seen.getLast? with
                | none => simp [hs] at h
                | some stamp =>
                  simp only [hs] at h
                  cases hf : es.find? (·.born == stamp) with
                  | none => simp [hf] at h
                  | some e =>
                    simp only [hf] at h
                    injection h with h
                    subst h
                    have key : ∀ (es : List HEntry) (es' : List MapEntry), EL G es es' → es.find? (·.born == stamp) = some e → ∃ e', es'.find? (·.born == stamp) = some e' ∧ e'.key = e.key ∧ V G e.val e'.val ∧ okVal e.key = true := by
                      intro es
                      induction es with
                      | nil => intro es' _ h; simp at h
                      | cons a es ih => intro es' he h; cases es' with
                        | nil => have := he.1; simp at this
                        | cons a' es' =>
                          have h0 := he.2 0 a a' rfl rfl
                          simp only [List.find?_cons] at h ⊢
                          rw [h0.2.1]
                          split at h
                          · cases h; exact ⟨a', rfl, h0.1, h0.2.2.1, h0.2.2.2⟩
                          · exact ih es' he.tail h
                    obtain ⟨e', k1, k2, k3, k4⟩ := key es es'.toList g2 hf
                    refine ⟨.tuple #[e'.key, e'.val], ?_, ?_⟩
                    · have hr1 := getObj_run (P := P) hit (by simp)
                      have hr2 := getObj_run (P := P) g1 (by simp)
                      have hbk : seen.toArray.back? = some stamp := by simpa using hs
                      have hfa : es'.find? (fun e => e.born == stamp) = some e' := by simpa using k1
                      simp [Instr.entry, hr1, hr2, hbk, hfa, hcl]
                    · refine .tup rfl (fun i x y h1 h2 => ?_)
                      match i with
                      | 0 => simp at h1 h2; subst h1; subst h2; rw [k2]; exact V.ofVal k4
                      | 1 => simp at h1 h2; subst h1; subst h2; exact k3
                      | n + 2 => simp at h1
              · cases h
            | _ => simp [hm] at h
        | _ => simp [hr] at h
  | _ => simp at h

theorem len_ok (hI : Inv C W0 G S w) {T ty : TypeId} {x : HV} {y : Value} {n : Nat} (hf : lenFits P T x = true) (h : hlen S x = some n) (hx : V G x y) : (Builtin.len_ #[T] ty #[y]).run P w = .ok (.int .i64 n) w := by
  unfold lenFits at hf
  cases hx with
  | @v y hp =>
    cases y with
    | string s =>
      simp [hlen] at h
      subst h
      simp only at hf
      split at hf
      · rename_i hu; simp [Builtin.len_, run_underlying hu, goInt]
      · cases hf
    | map q =>
      cases q with
      | none =>
        simp [hlen] at h
        subst h
        simp only at hf
        split at hf
        · rename_i hu; simp [Builtin.len_, run_underlying hu, goInt]
        · cases hf
      | some q => simp [plain] at hp
    | _ => simp [hlen] at h
  | nil =>
    simp [hlen] at h
    subst h
    simp only at hf
    split at hf
    · rename_i hu; simp [Builtin.len_, run_underlying hu, goInt]
    · cases hf
  | sl ys hz hc hi hv hf' ht =>
    simp [hlen] at h
    subst h
    simp only at hf
    split at hf
    · rename_i hu; simp [Builtin.len_, run_underlying hu, goInt]
    · cases hf
  | mt h0 hk =>
    simp [hlen] at h
    subst h
    simp only at hf
    split at hf
    · rename_i hu; simp [Builtin.len_, run_underlying hu, goInt]
    · cases hf
  | ms hb hn =>
    simp [hlen] at h
    subst h
    simp only at hf
    split at hf
    · rename_i hu; simp [Builtin.len_, run_underlying hu, goInt]
    · cases hf
  | @mp l b hb =>
    simp only [hlen] at h
    cases hl : S l with
    | none => simp [hl] at h
    | some q =>
      cases q with
      | map es clock =>
        simp [hl] at h
        subst h
        obtain ⟨es', g1, g2⟩ := hI.mapAt hl hb
        have hlen : es.length = es'.size := by simpa using g2.1
        simp only at hf
        split at hf
        · rename_i hu; simp [Builtin.len_, run_underlying hu, goInt, getObj_run (P := P) g1 (by simp), hlen]
        · cases hf
      | _ => simp [hl] at h
  | _ => simp [hlen] at h

/-! ### package unsafe -/
theorem liesAt_self (P : Program) {u : TypeId} {count off n : Nat} (hc : P.cellsOf u ≠ 0) (ho : off % P.cellsOf u = 0) (hn : off / P.cellsOf u + n ≤ count) : liesAt P P.depth u count off u n = true := by
  have hd : P.depth = (2 * (P.types.size + Made.depth) + 1) + 1 := rfl
  rw [hd]
  simp only [liesAt, Bool.or_eq_true]
  left
  rw [hd]
  simp [rowAt, hc, ho, hn, sameLayout]

theorem loadBytes_run : ∀ (l : List Int) (a : Addr) (acc : ByteArray), (∀ (j : Nat) x, l[j]? = some x → w.cell? (a.add j) = some (.int .u8 x)) →
    (loadBytes a acc l.length).run P w = .ok ⟨acc.data ++ (l.map fun n => UInt8.ofNat n.toNat).toArray⟩ w
  | [], a, acc, _ => by simp [loadBytes]
  | x :: l, a, acc, h => by
    have h0 : w.cell? a = some (.int .u8 x) := by
      have := h 0 x rfl
      simpa [Addr.add] using this
    have ih := loadBytes_run l (a.add 1) (acc.push (UInt8.ofNat x.toNat)) (fun j y hy => by
      have := h (j + 1) y (by simpa using hy)
      have e : (a.add 1).add j = a.add (j + 1) := by
        unfold Addr.add
        by_cases hj : j = 0
        · subst hj; simp
        · simp [hj]; omega
      rw [e]; exact this)
    simp only [List.length_cons, loadBytes, Sem.run_bind, run_load, h0, Result.andThen, Nat.toUInt8]
    rw [ih]
    congr 1
    apply ByteArray.ext
    simp [ByteArray.push]

theorem heap_freeze (w : World) (b o n : Nat) {c : Array Value} {T : TypeId} {fz : Nat × Nat} (h : w.heap[b]? = some (.cells c T fz)) :
    ∃ fz', (w.freeze ⟨b, o, none⟩ n).heap[b]? = some (.cells c T fz') ∧ ∀ f, o + n ≤ f → (fz.1 = fz.2 ∨ fz.2 ≤ f) → (fz'.1 = fz'.2 ∨ fz'.2 ≤ f) := by
  unfold World.freeze
  split
  · exact ⟨fz, h, fun _ _ h => h⟩
  · obtain ⟨lo, hi⟩ := fz
    refine ⟨if lo == hi then (o, o + n) else (min lo o, max hi (o + n)), ?_, ?_⟩
    · simp [Array.getElem?_modify, h]
    · intro f hf hz
      simp only at hz
      by_cases e : lo = hi
      · subst e; simp; right; exact hf
      · have : hi ≤ f := by rcases hz with h | h; exact absurd h e; exact h
        rw [if_neg (by simpa using e)]
        right
        simp only
        omega
theorem heap_freeze_ne (w : World) (b o n : Nat) {b' : Nat} (h : b' ≠ b) : (w.freeze ⟨b, o, none⟩ n).heap[b']? = w.heap[b']? := by
  unfold World.freeze
  split
  · rfl
  · simp [Array.getElem?_modify, Ne.symm h]
theorem freeze_size (w : World) (a : Addr) (n : Nat) : (w.freeze a n).heap.size = w.heap.size := by
  unfold World.freeze
  split
  · rfl
  · simp

theorem Inv.freeze (hI : Inv C W0 G S w) {t b f to z o n : Nat} {T : TypeId} (ht : S t = some .tok) (hs : G.slk t = some (b, f, to, z)) (hT : lt t = some T) (hn : o + n ≤ f) : Inv C W0 G S (w.freeze ⟨b, o, none⟩ n) := by
  have hbd := hI.sbnd t b f to z hs
  obtain ⟨c, fz, hc, hz⟩ := hI.styp t b f to z T ht hs hT
  obtain ⟨fz', hc', hz'⟩ := heap_freeze w b o n hc
  have hne : ∀ b', b' ≠ b → (w.freeze ⟨b, o, none⟩ n).heap[b']? = w.heap[b']? := fun b' h => heap_freeze_ne w b o n h
  have hcell : ∀ b' q, (w.freeze ⟨b, o, none⟩ n).cell? ⟨b', q, none⟩ = w.cell? ⟨b', q, none⟩ := by
    intro b' q
    by_cases e : b' = b
    · subst e; simp [World.cell?, hc, hc']
    · exact cell?_same (hne b' e) q
  refine ⟨Lib.below_freeze hI.below hbd.1 n, hI.fin, ?_, ?_, ?_, hI.blkNone, hI.slkNone, hI.inj, hI.tinj, hI.tb, ?_, ?_, ?_, hI.gl, ?_, ?_⟩
  · intro b' q y hy
    rw [hcell]
    exact hI.imm b' q y hy
  · intro l x hl hx
    obtain ⟨b', hb', ho⟩ := hI.obj l x hl hx
    have : b' ≠ b := fun e => hI.tb t l x b f to z ht hl hx hs (e ▸ hb')
    exact ⟨b', hb', ho.keep (.refl G) (hne b' this) (fun _ => rfl)⟩
  · intro k hk
    obtain ⟨b', f', to', z', h1, h2⟩ := hI.tok k hk
    by_cases e : b' = b
    · subst e
      have : k = t := hI.tinj k t b' _ _ _ _ _ _ hk ht h1 hs
      subst this
      rw [hs] at h1
      simp only [Option.some.injEq, Prod.mk.injEq] at h1
      obtain ⟨_, rfl, rfl, rfl⟩ := h1
      obtain ⟨⟨c2, T2, fz2, k1, k2⟩, hu, hf⟩ := h2
      rw [hc] at k1; cases k1
      refine ⟨b', f, to, z, hs, ⟨c, T, fz', hc', k2⟩, fun j h1 h2 => ?_, hf⟩
      have := hz' f hn hz
      simp only [World.frozen?, hc']
      rcases this with h | h
      · simp; omega
      · simp; omega
    · exact ⟨b', f', to', z', h1, h2.keep (hne b' e) (fun _ => rfl)⟩
  · intro l b' h; rw [freeze_size]; exact hI.bnd l b' h
  · intro k b' f' to' z' h; rw [freeze_size]; exact hI.sbnd k b' f' to' z' h
  · intro b' q y h; rw [freeze_size]; exact hI.ibnd b' q y h
  · intro l b' T' hb hT'
    have h1 := hI.btyp l b' T' hb hT'
    by_cases e : b' = b
    · subst e
      obtain ⟨c2, fz2, h2⟩ := h1
      rw [hc] at h2; cases h2
      exact ⟨c, fz', hc'⟩
    · exact h1.keep (hne b' e)
  · intro k b' f' to' z' T' hk h1 hT'
    by_cases e : b' = b
    · subst e
      have : k = t := hI.tinj k t b' _ _ _ _ _ _ hk ht h1 hs
      subst this
      rw [hs] at h1
      simp only [Option.some.injEq, Prod.mk.injEq] at h1
      obtain ⟨_, rfl, rfl, rfl⟩ := h1
      rw [hT] at hT'; cases hT'
      exact ⟨c, fz', hc', hz' f hn hz⟩
    · exact (hI.styp k b' f' to' z' T' hk h1 hT').keep (hne b' e)

theorem sliceData_ok {ts : Array TypeId} {ty : TypeId} {t z : Nat} {es : List (List HV)} {y : Value} (h : V G (.sl (.live t) z es) y) (hne : es ≠ []) :
    ∃ v, (Builtin.unsafeSliceData_ ts ty #[y]).run P w = .ok v w ∧ V G (.dp t z es) v := by
  cases h with
  | mt h0 hk => exact absurd rfl hne
  | @sl _ _ _ b o cap ys h0 hz hc hi hv hf ht =>
    have hl : es.length ≠ 0 := by simpa using hne
    exact ⟨_, Lib.run_unsafeSliceData_row w ts ty _ _ _ (by omega), .dp ys (ht t rfl) hz (Nat.le_refl _) hi hv⟩
theorem sliceData_nil {ts : Array TypeId} {ty : TypeId} {y : Value} (h : V G (.sl .full 0 []) y) :
    (Builtin.unsafeSliceData_ ts ty #[y]).run P w = .ok (.pointer none) w := by
  cases h with
  | nil => rfl
  | mt h0 => exact absurd h0 (by simp)
  | sl ys h0 => exact absurd h0 (by simp)

theorem unsafeString_ok (hI : Inv C W0 G S w) {pt it ty e : TypeId} {i : TyI} {t : Nat} {es : List (List HV)} {bs : List UInt8} {y : Value} (hp : P.underlying pt = some (.pointer e)) (hi : tyI P e = some i) (h1 : i.size = 1)
    (ht : S t = some .tok) (hT : lt t = some e) (hne : es ≠ []) (hb : hbytes es = some bs) (h : V G (.dp t 1 es) y) (hlen : (es.length : Int) ≤ 9223372036854775807) :
    ∃ w', (Builtin.unsafeString_ #[pt, it] ty #[y, .int .i64 es.length]).run P w = .ok (.string ⟨bs.toArray⟩) w' ∧ Inv C W0 G S w' := by
  obtain ⟨inf, d, zz, k1, k2, k3, k4, k5, k6, k7, k8, k9⟩ := tyI_spec hi
  obtain ⟨ns, rfl, rfl⟩ := hbytes_spec hb
  cases h with
  | @dp _ _ _ b o f to ys hs hz hf himm hv =>
    obtain ⟨c, fz, hc, hfz⟩ := hI.styp t b f to 1 e ht hs hT
    have hcell : ∀ (j : Nat) x, ns[j]? = some x → w.cell? ((⟨b, o, none⟩ : Addr).add j) = some (.int .u8 x) := by
      intro j x hx
      have g1 := himm j [HV.int .u8 x] 0 _ (by simp [hx]) rfl
      have g2 := hv j [HV.int .u8 x] 0 _ (by simp [hx]) rfl
      have g3 := (hI.imm _ _ _ g1).1
      have g4 : ys j 0 = .int .u8 x := by
        generalize ys j 0 = q at g2
        cases g2; rfl
      rw [g4] at g3
      simp only [Nat.mul_one, Nat.add_zero] at g3
      rw [add_plain']
      exact g3
    have hl : ns.length ≠ 0 := by simpa using hne
    have hcs : o + ns.length ≤ c.size := by
      have hx : ns[ns.length - 1]? = some (ns[ns.length - 1]'(by omega)) := List.getElem?_eq_getElem _
      have := hcell _ _ hx
      rw [add_plain'] at this
      simp only [World.cell?, hc] at this
      have := (Array.getElem?_eq_some_iff.1 this).1
      omega
    have hsh : w.shape? b = some (e, c.size) := by simp [World.shape?, hc]
    have hco : P.cellsOf e = 1 := by simp [Program.cellsOf, k1]; omega
    have hlies : liesAt P P.depth e (c.size / P.cellsOf e) o e ns.length = true := liesAt_self P (by omega) (by rw [hco]; omega) (by rw [hco]; simpa using hcs)
    have hlb := loadBytes_run (P := P) (w := w) ns ⟨b, o, none⟩ .empty hcell
    have hdef : Builtin.unsafeString_ #[pt, it] ty #[.pointer (some ⟨b, o, none⟩), .int .i64 ns.length] =
      (do
        let n ← asInt (.int .i64 ns.length)
        if n < 0 then runtimePanic (.error "unsafe.String: len out of range")
        if n > IntKind.i64.max then unsupported (.unsafePointer "String: a length above the largest int")
        if n = 0 then pure (.string .empty)
        else if ← variablesAt ⟨b, o, none⟩ (← elemOf pt) n.toNat then do
          let s ← loadBytes ⟨b, o, none⟩ .empty n.toNat
          Go.freeze ⟨b, o, none⟩ n.toNat
          pure (.string s)
        else unsupported (.unsafePointer "String: not so many bytes at ptr")) := rfl
    have hmax : IntKind.i64.max = 9223372036854775807 := rfl
    have hneg : ¬ (ns.length : Int) < 0 := by omega
    have h63' : ¬ (9223372036854775807 : Int) < (ns.length : Int) := by simp at hlen; omega
    refine ⟨w.freeze ⟨b, o, none⟩ ns.length, ?_, hI.freeze ht hs hT (by simp at hf; omega)⟩
    simp only [List.length_map]
    rw [hdef]
    simp [asInt, asIntOf, hmax, h63', hneg, hl, variablesAt, hsh, elemOf, run_underlying hp, hlies, hlb]

theorem toUnsafe_ok (hI : Inv C W0 G S w) {src dst t : TypeId} {i : TyI} {l q : Nat} {cs : List HV} {y : Value} (hs : P.underlying src = some (.pointer t)) (hd : P.underlying dst = some .unsafePointer) (hi : tyI P t = some i) (h0 : 0 < i.size)
    (hl : S l = some (.row cs)) (hq : q < cs.length) (h : V G (.ptr l q) y) : (convert src dst y).run P w = .ok y w := by
  obtain ⟨inf, d, zz, k1, k2, k3, k4, k5, k6, k7, k8, k9⟩ := tyI_spec hi
  cases h with
  | ptr hb =>
    obtain ⟨c, T, fz, he, hv, hr, hu, hf⟩ := hI.rowRange hl hb
    have hcl : c.size = cs.length := by have := hv.1; simpa using this.symm
    exact Lib.run_to_unsafe w _ hs hd k1 (by omega) (e := T) (cells := c.size) (by simp [World.shape?, he]) (by simp only; omega)
theorem fromUnsafe_ok (hI : Inv C W0 G S w) {src dst u : TypeId} {i : TyI} {l : Nat} {cs : List HV} {y : Value} (hs : P.underlying src = some .unsafePointer) (hd : P.underlying dst = some (.pointer u)) (hi : tyI P u = some i) (h0 : 0 < i.size)
    (hl : S l = some (.row cs)) (hq : cs.length = i.size) (hlt : lt l = some u) (h : V G (.ptr l 0) y) : (convert src dst y).run P w = .ok y w := by
  obtain ⟨inf, d, zz, k1, k2, k3, k4, k5, k6, k7, k8, k9⟩ := tyI_spec hi
  cases h with
  | ptr hb =>
    obtain ⟨c, T, fz, he, hv, hr, hu, hf⟩ := hI.rowRange hl hb
    have hcl : c.size = cs.length := by have := hv.1; simpa using this.symm
    obtain ⟨c2, fz2, h2⟩ := hI.btyp l _ u hb hlt
    rw [he] at h2; cases h2
    have hco : P.cellsOf u = i.size := by simp [Program.cellsOf, k1]; omega
    refine Lib.run_from_unsafe w _ hs hd k1 (e := u) (cells := c.size) (by simp [World.shape?, he]) (liesAt_self P (by omega) (by simp) ?_)
    rw [hco, hcl, hq, Nat.div_self h0]
    simp

end Go.HL
