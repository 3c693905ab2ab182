import Derived.Test.YtemjmjacmokidaaDoorH10
set_option linter.all false
/-! HL, part 11: each operation does in the model what HL says (7): maps. -/
namespace Go.HL
open Go Go.RowKit
variable {P : Program} {C : Cfg} {W0 : World} {G : Ghost} {S : HS} {w : World}

@[simp] theorem val?_bind' {α β : Type} (s : Sem α) (f : α → Sem β) : (s >>= f).val? P = (s.val? P).bind fun a => (f a).val? P := Sem.val?_bind s f
@[simp] theorem val?_pure {α : Type} (a : α) : (pure a : Sem α).val? P = some a := rfl
@[simp] theorem val?_underlying (t : TypeId) : (underlying t).val? P = P.underlying t := by
  unfold underlying
  simp only [val?_bind']
  show ((some P).bind fun p => _) = _
  simp only [Option.bind_some]
  cases P.underlying t <;> rfl

theorem sameNow_key {kt : TypeId} {d : TypeDesc} {a b : Value} {r : Bool} (hu : P.underlying kt = some d) (h : Instr.sameNow d a b = some r) : keyEq P kt a b = some r := by
  unfold keyEq
  show (Op.equalIn (9999 + 1) kt a b).val? P = some r
  generalize 9999 = n
  unfold Instr.sameNow at h
  split at h
  · split at h
    · rename_i hk
      subst hk
      injection h with h
      subst h
      simp [Op.equalIn, hu]
    · cases h
  · injection h with h
    subst h
    simp [Op.equalIn, hu]
  · injection h with h
    subst h
    simp [Op.equalIn, hu]
  · cases h

/-- The entries of a map, one by one. -/
def EL (G : Ghost) (es : List HEntry) (es' : List MapEntry) : Prop :=
  es.length = es'.length ∧ ∀ (i : Nat) (e : HEntry) (e' : MapEntry), es[i]? = some e → es'[i]? = some e' → e'.key = e.key ∧ e'.born = e.born ∧ V G e.val e'.val ∧ okVal e.key = true
theorem EL.tail {e : HEntry} {e' : MapEntry} {es : List HEntry} {es' : List MapEntry} (h : EL G (e :: es) (e' :: es')) : EL G es es' :=
  ⟨by have := h.1; simpa using this, fun i a b ha hb => h.2 (i + 1) a b (by simpa using ha) (by simpa using hb)⟩

theorem findNow_ok {kt : TypeId} {d : TypeDesc} {k : Value} (hu : P.underlying kt = some d) : ∀ {es : List HEntry} {es' : List MapEntry} (i : Nat) {r : Option (Nat × HV)} {r' : Option (Nat × Value)}, EL G es es' →
    hfind P kt k es = some r → Instr.findNow d k es' i = some r' → (r = none ∧ r' = none) ∨ ∃ j x y, r = some (j, x) ∧ r' = some (i + j, y) ∧ V G x y ∧ j < es.length
  | [], [], i, r, r', _, h, h' => by simp [hfind] at h; simp [Instr.findNow] at h'; subst h; subst h'; exact .inl ⟨rfl, rfl⟩
  | [], _ :: _, i, r, r', he, _, _ => by have := he.1; simp at this
  | _ :: _, [], i, r, r', he, _, _ => by have := he.1; simp at this
  | e :: es, e' :: es', i, r, r', he, h, h' => by
    have h0 := he.2 0 e e' rfl rfl
    simp only [Instr.findNow] at h'
    rw [h0.1] at h'
    cases hs : Instr.sameNow d k e.key with
    | none => simp [hs] at h'
    | some b =>
      have hk := sameNow_key hu hs
      simp only [hfind, hk] at h
      cases b with
      | true =>
        simp [hs] at h'
        simp at h
        subst h; subst h'
        exact .inr ⟨0, _, _, rfl, rfl, h0.2.2.1, by simp⟩
      | false =>
        simp [hs] at h'
        simp only [Option.map_eq_some_iff] at h
        obtain ⟨q, hq, rfl⟩ := h
        rcases findNow_ok hu (i + 1) he.tail hq h' with ⟨rfl, rfl⟩ | ⟨j, x, y, rfl, rfl, hV, hj⟩
        · exact .inl ⟨rfl, rfl⟩
        · exact .inr ⟨j + 1, x, y, rfl, by congr 2; omega, hV, by simpa using hj⟩

theorem findAsking_ok {kt : TypeId} {k : Value} : ∀ {es : List HEntry} {es' : List MapEntry} (i : Nat) {r : Option (Nat × HV)}, EL G es es' → hfind P kt k es = some r →
    ∃ r', (Instr.findAsking kt k es' i).run P w = .ok r' w ∧ ((r = none ∧ r' = none) ∨ ∃ j x y, r = some (j, x) ∧ r' = some (i + j, y) ∧ V G x y ∧ j < es.length)
  | [], [], i, r, _, h => by simp [hfind] at h; subst h; exact ⟨none, rfl, .inl ⟨rfl, rfl⟩⟩
  | [], _ :: _, i, r, he, _ => by have := he.1; simp at this
  | _ :: _, [], i, r, he, _ => by have := he.1; simp at this
  | e :: es, e' :: es', i, r, he, h => by
    have h0 := he.2 0 e e' rfl rfl
    simp only [hfind] at h
    cases hk : keyEq P kt k e.key with
    | none => simp [hk] at h
    | some b =>
      have hrun := Sem.val?_run hk w
      cases b with
      | true =>
        simp [hk] at h
        subst h
        refine ⟨some (i, e'.val), ?_, .inr ⟨0, _, _, rfl, rfl, h0.2.2.1, by simp⟩⟩
        simp only [Instr.findAsking, Sem.run_bind, h0.1, hrun, Result.andThen_ok, if_true, Sem.run_pure]
      | false =>
        simp only [hk, Option.map_eq_some_iff] at h
        obtain ⟨q, hq, rfl⟩ := h
        obtain ⟨r', hr', hc⟩ := findAsking_ok (i + 1) he.tail hq
        refine ⟨r', ?_, ?_⟩
        · simp only [Instr.findAsking, Sem.run_bind, h0.1, hrun, Result.andThen_ok, Bool.false_eq_true, if_false, hr']
        · rcases hc with ⟨rfl, rfl⟩ | ⟨j, x, y, rfl, rfl, hV, hj⟩
          · exact .inl ⟨rfl, rfl⟩
          · exact .inr ⟨j + 1, x, y, rfl, by congr 2; omega, hV, by simpa using hj⟩

theorem hkey_spec {T : TypeId} {es : List HEntry} {es' : List MapEntry} {k : HV} {kr : Value} {v : Value} {r : Option (Nat × HV)} (h : hkey P T es k = some (v, r)) (hk : V G k kr) (he : EL G es es') :
    ∃ kt et, P.underlying T = some (.map kt et) ∧ mapTypes P T = some (kt, et) ∧ kr = v ∧ okVal v = true ∧ (Instr.checkKey es'.isEmpty 10000 kt v).run P w = .ok () w ∧ (Instr.checkKey false 10000 kt v).run P w = .ok () w ∧
      ∃ r', (Instr.findKey kt v es').run P w = .ok r' w ∧ ((r = none ∧ r' = none) ∨ ∃ j x y, r = some (j, x) ∧ r' = some (j, y) ∧ V G x y ∧ j < es.length) := by
  unfold hkey at h
  cases hm : mapTypes P T with
  | none => simp [hm] at h
  | some p =>
    obtain ⟨kt, et⟩ := p
    have hu : P.underlying T = some (.map kt et) := by
      unfold mapTypes at hm
      split at hm
      · rename_i k e hd; cases hm; exact hd
      · cases hm
    cases hv : toVal k with
    | none => simp [hm, hv] at h
    | some kv =>
      have hkr := hk.toVal hv
      subst hkr
      simp only [hm, hv] at h
      split at h
      · cases h
      · rename_i hn
        obtain ⟨d, hd⟩ : ∃ d, P.underlying kt = some d := by
          cases hd : P.underlying kt with
          | none => simp [hd] at hn
          | some d => exact ⟨d, rfl⟩
        split at h
        · rename_i hc1 hc2 hf hok
          cases h
          have hemp : es.isEmpty = es'.isEmpty := by
            have := he.1
            cases es <;> cases es' <;> simp_all
          rw [hemp] at hc1
          refine ⟨kt, et, hu, rfl, rfl, hok, Sem.val?_run hc1 w, Sem.val?_run hc2 w, ?_⟩
          unfold Instr.findKey
          simp only [Sem.run_bind, run_underlying hd, Result.andThen_ok]
          cases hfn : Instr.findNow d kr es' 0 with
          | some r' =>
            refine ⟨r', rfl, ?_⟩
            rcases findNow_ok hd 0 he hf hfn with h | ⟨j, x, y, h1, h2, h3, h4⟩
            · exact .inl h
            · exact .inr ⟨j, x, y, h1, by rw [h2]; simp, h3, h4⟩
          | none =>
            obtain ⟨r', hr', h⟩ := findAsking_ok (w := w) 0 he hf
            refine ⟨r', hr', ?_⟩
            rcases h with h | ⟨j, x, y, h1, h2, h3, h4⟩
            · exact .inl h
            · exact .inr ⟨j, x, y, h1, by rw [h2]; simp, h3, h4⟩
        · cases h

theorem getObj_run {b : Nat} {o : Obj} (h : w.heap[b]? = some o) (hc : ∀ c e f, o ≠ .cells c e f) : (getObj b).run P w = .ok o w := by
  unfold getObj
  cases o <;> first | (simp only [Sem.run, h]; done) | exact absurd rfl (hc _ _ _)
theorem setObj_run {b : Nat} {o o' : Obj} (h : w.heap[b]? = some o) (hc : ∀ c e f, o ≠ .cells c e f) : (setObj b o').run P w = .ok () { w with heap := w.heap.setIfInBounds b o' } := by
  unfold setObj
  cases o <;> first | (simp only [Sem.run, h]; done) | exact absurd rfl (hc _ _ _)

theorem Inv.mapAt (hI : Inv C W0 G S w) {l b : Nat} {es : List HEntry} {clock : Nat} (hl : S l = some (.map es clock)) (hb : G.blk l = some b) :
    ∃ es' : Array MapEntry, w.heap[b]? = some (.map es' clock) ∧ EL G es es'.toList := by
  obtain ⟨b', hb', ho⟩ := hI.obj l _ hl rfl
  rw [hb] at hb'; cases hb'
  obtain ⟨es', h1, h2, h3⟩ := MapAt.ex ho
  exact ⟨es', h1, by simpa using h2, fun i e e' he he' => h3 i e e' he (by simpa using he')⟩

theorem notMap {b : Nat} {es : Array MapEntry} {k : Nat} (h : w.heap[b]? = some (.map es k)) : ∀ T, ¬ Typed w b T := by
  rintro T ⟨c, fz, h'⟩
  rw [h] at h'; cases h'
theorem notIter {b : Nat} {m : Option Nat} {s : Nat} {q : Array Nat} {k : Nat} (h : w.heap[b]? = some (.mapIter m s q k)) : ∀ T, ¬ Typed w b T := by
  rintro T ⟨c, fz, h'⟩
  rw [h] at h'; cases h'

theorem Inv.setMap (hI : Inv C W0 G S w) {l b : Nat} {x : HObj} (hl : S l = some x) (hx : x.heavy = true) (hb : G.blk l = some b) {es : List HEntry} {es' : Array MapEntry} {clock : Nat} (he : EL G es es'.toList) (hnr : ∀ o, G.imm b o = none) (hnt : ∀ T, ¬ Typed w b T) :
    Inv C W0 G (S.set l (.map es clock)) { w with heap := w.heap.setIfInBounds b (.map es' clock) } := by
  have hbd := hI.bnd l b hb
  have hoth : ∀ b', b' ≠ b → (w.heap.setIfInBounds b (.map es' clock))[b']? = w.heap[b']? := fun b' h => by rw [Array.getElem?_setIfInBounds, if_neg (Ne.symm h)]
  refine hI.upd l _ b (.refl G) ⟨rfl, rfl, rfl, by simp, fun k hk => hoth k (by omega)⟩ (fun b' h _ => hoth b' h) (fun _ _ _ => rfl) (fun o y hy => by rw [hnr] at hy; cases hy) hb (fun _ _ => rfl) rfl ?_ ?_ (by simp) ?_ ⟨hbd.1, by simpa using hbd.2⟩ (fun T h => absurd h (hnt T)) (fun T h _ => by rw [h] at hb; cases hb)
  · intro k y hk hS hy hkb
    exact hk (hI.inj k l y x b hS hl hy hx hkb hb)
  · intro t f to z _ ht hs
    exact hI.tb t l x b f to z ht hl hx hs hb
  · intro _
    refine ⟨es', by simp [hbd.2], by simpa using he.1, fun i e e' h1 h2 => he.2 i e e' h1 (by simpa using h2)⟩

theorem Inv.immMap (hI : Inv C W0 G S w) {b : Nat} {es' : Array MapEntry} {clock : Nat} (h : w.heap[b]? = some (.map es' clock)) (o : Nat) : G.imm b o = none := by
  cases hy : G.imm b o with
  | none => rfl
  | some y =>
    have := (hI.imm b o y hy).1
    simp [World.cell?, h] at this
theorem Inv.immIter (hI : Inv C W0 G S w) {b : Nat} {m s l q} (h : w.heap[b]? = some (.mapIter m s l q)) (o : Nat) : G.imm b o = none := by
  cases hy : G.imm b o with
  | none => rfl
  | some y =>
    have := (hI.imm b o y hy).1
    simp [World.cell?, h] at this

theorem lookup_ok (hI : Inv C W0 G S w) {T : TypeId} {x k v : HV} {xr kr : Value} {ok : Bool} (h : hlookup P T x k ok S = some v) (hx : V G x xr) (hk : V G k kr) : ∃ y, (Instr.lookup T xr kr ok).run P w = .ok y w ∧ V G v y := by
  unfold hlookup at h
  cases hm : mapTypes P T with
  | none => simp [hm] at h
  | some p =>
    obtain ⟨kt, et⟩ := p
    simp only [hm] at h
    cases hi : tyI P et with
    | none => simp [hi] at h
    | some i =>
      simp only [hi] at h
      obtain ⟨inf, d, z, h1, h2, h3, h4, h5, h6, h7, h8, h9, h10⟩ := tyI_spec' hi
      have main : ∀ (es : List HEntry) (es' : Array MapEntry), EL G es es'.toList → (match hkey P T es k with
          | none => none
          | some (_, r) => match (match r with | some (_, x) => some x | none => joinCells i.agg i.zero) with
            | some x => some (if ok then HV.tup [x, .bool r.isSome] else x)
            | none => none) = some v →
          ∃ y, (do Instr.checkKey es'.isEmpty 10000 kt kr
                   let (v, ok') ← match ← Instr.findKey kt kr es'.toList with
                     | some (_, v) => pure (v, true)
                     | none => pure (← zeroValue et, false)
                   pure (if ok then Value.tuple #[v, .bool ok'] else v) : Sem Value).run P w = .ok y w ∧ V G v y := by
        intro es es' he h
        cases hkk : hkey P T es k with
        | none => simp [hkk] at h
        | some q =>
          obtain ⟨kv, r⟩ := q
          simp only [hkk] at h
          obtain ⟨kt', et', g1, g2, g3, g4, g5, g6, r', g7, g8⟩ := hkey_spec (w := w) hkk hk he
          rw [hm] at g2; cases g2
          subst g3
          have hemp : es'.toList.isEmpty = es'.isEmpty := by simp
          rw [hemp] at g5
          have hpair : ∀ (x : HV) (y : Value) (b : Bool), V G x y → some (if ok then HV.tup [x, .bool b] else x) = some v → V G v (if ok then Value.tuple #[y, .bool b] else y) := by
            intro x y b hV he
            injection he with he
            subst he
            cases ok with
            | true =>
              refine .tup rfl (fun i x' y' h1 h2 => ?_)
              match i with
              | 0 => simp at h1 h2; subst h1; subst h2; exact hV
              | 1 => simp at h1 h2; subst h1; subst h2; exact .v rfl
              | n + 2 => simp at h1
            | false => exact hV
          rcases g8 with ⟨rfl, rfl⟩ | ⟨j, x, y, rfl, rfl, hV, _⟩
          · simp only at h
            cases hj : joinCells i.agg i.zero with
            | none => simp [hj] at h
            | some x =>
              simp only [hj, Option.isSome_none] at h
              have hzV : V G x z := by
                unfold joinCells at hj
                by_cases ha : i.agg = true
                · rw [if_pos ha] at hj
                  cases hj
                  rw [ha] at h10
                  cases z with
                  | agg cs => rw [h9]; exact VL.aggV (zero_VL h4)
                  | _ => simp [isAggV] at h10
                · rw [if_neg ha] at hj
                  simp only [Bool.not_eq_true] at ha
                  rw [ha] at h10
                  have e1 : z.cells = #[z] := by cases z <;> simp_all [Value.cells, isAggV]
                  rw [h9, e1] at hj
                  simp at hj
                  subst hj
                  rw [e1] at h4
                  simp at h4
                  exact V.leaf h4
              refine ⟨_, ?_, hpair x z false hzV h⟩
              simp [g5, g7, zeroValue, typeInfo, h1, h3]
          · simp only [Option.isSome_some] at h
            refine ⟨_, ?_, hpair x y true hV h⟩
            simp [g5, g7]
      have hu : P.underlying T = some (.map kt et) := by
        unfold mapTypes at hm
        split at hm
        · rename_i k e hd; cases hm; exact hd
        · cases hm
      cases hx with
      | @v xr hp =>
        cases xr with
        | map q =>
          cases q with
          | none =>
            simp only at h
            obtain ⟨y, hy, hV⟩ := main [] #[] ⟨rfl, fun i e e' he => by simp at he⟩ h
            refine ⟨y, ?_, hV⟩
            rw [← hy]
            simp [Instr.lookup, run_underlying hu]
            rfl
          | some q => simp [plain] at hp
        | _ => simp at h
      | @mp l b hb =>
        simp only at h
        cases hl : S l with
        | none => simp [hl] at h
        | some q =>
          cases q with
          | map es clock =>
            simp only [hl] at h
            obtain ⟨es', g1, g2⟩ := hI.mapAt hl hb
            obtain ⟨y, hy, hV⟩ := main es es' g2 h
            refine ⟨y, ?_, hV⟩
            rw [← hy]
            have hg := getObj_run (P := P) g1 (by simp)
            simp [Instr.lookup, run_underlying hu, hg]
            rfl
          | _ => simp [hl] at h
      | _ => simp at h

theorem EL.set {es : List HEntry} {es' : Array MapEntry} (h : EL G es es'.toList) (i : Nat) {k : Value} {x : HV} {y : Value} (hk : okVal k = true) (hV : V G x y) :
    EL G (es.modify i fun e => { e with key := k, val := x }) (es'.modify i fun e => { e with key := k, val := y }).toList := by
  refine ⟨by have := h.1; simpa using this, fun j e e' h1 h2 => ?_⟩
  rw [List.getElem?_modify] at h1
  rw [Array.getElem?_toList, Array.getElem?_modify] at h2
  cases he : es[j]? with
  | none => simp [he] at h1
  | some e0 =>
    cases he' : es'[j]? with
    | none => split at h2 <;> simp [he'] at h2
    | some e0' =>
      have h0 := h.2 j e0 e0' he (by simpa using he')
      by_cases hij : i = j
      · simp [he, he', hij] at h1 h2
        subst h1; subst h2
        exact ⟨rfl, h0.2.1, hV, hk⟩
      · simp [he, he', hij] at h1 h2
        subst h1; subst h2
        exact h0

theorem mapUpdate_ok (hI : Inv C W0 G S w) {T : TypeId} {m k x : HV} {mr kr xr : Value} {S' : HS} (h : hmapUpdate P T m k x S = some S') (hm : V G m mr) (hk : V G k kr) (hx : V G x xr) :
    ∃ w', (Instr.mapUpdate T mr kr xr).run P w = .ok () w' ∧ Inv C W0 G S' w' := by
  unfold hmapUpdate at h
  cases hm with
  | @mp l b hb =>
    simp only at h
    cases hl : S l with
    | none => simp [hl] at h
    | some q =>
      cases q with
      | map es clock =>
        simp only [hl] at h
        obtain ⟨es', g1, g2⟩ := hI.mapAt hl hb
        have hg := getObj_run (P := P) g1 (by simp)
        cases hkk : hkey P T es k with
        | none => simp [hkk] at h
        | some q =>
          obtain ⟨kv, r⟩ := q
          simp only [hkk] at h
          obtain ⟨kt, et, q1, q2, q3, q4, q5, q6, r', q7, q8⟩ := hkey_spec (w := w) hkk hk g2
          subst q3
          rcases q8 with ⟨rfl, rfl⟩ | ⟨j, x0, y0, rfl, rfl, hV, hj⟩
          · simp only at h
            injection h with h
            subst h
            refine ⟨{ w with heap := w.heap.setIfInBounds b (.map (es'.push { key := kr, val := xr, born := clock }) (clock + 1)) }, ?_, ?_⟩
            · simp [Instr.mapUpdate, run_underlying q1, hg, q6, q7, setObj_run (P := P) g1 (by simp)]
            · refine hI.setMap hl rfl hb ⟨by have := g2.1; simpa using this, fun i e e' h1 h2 => ?_⟩ (hI.immMap g1) (notMap g1)
              rw [Array.toList_push] at h2
              have hlen := g2.1
              rw [List.getElem?_append] at h1 h2
              split at h1
              · rw [if_pos (by omega)] at h2; exact g2.2 i e e' h1 h2
              · rw [if_neg (by omega)] at h2
                have : i - es.length = 0 := by
                  have := (List.getElem?_eq_some_iff.1 h1).1
                  simp at this; omega
                rw [this] at h1
                rw [← hlen, this] at h2
                simp at h1 h2
                subst h1; subst h2
                exact ⟨rfl, rfl, hx, q4⟩
          · simp only at h
            split at h
            · rename_i hsb
              injection h with h
              subst h
              have hlen := g2.1
              have hj' : j < es'.size := by simpa [hlen] using hj
              have hkey : (((es'[j]?).map (·.key)).getD kr) = (((es[j]?).map (·.key)).getD kr) := by
                have e1 : es[j]? = some es[j] := List.getElem?_eq_getElem hj
                have e2 : es'[j]? = some es'[j] := Array.getElem?_eq_getElem hj'
                have := (g2.2 j _ es'[j] e1 (by simp [hj'])).1
                rw [e1, e2]
                simp [this]
              refine ⟨{ w with heap := w.heap.setIfInBounds b (.map (es'.modify j fun e => { e with key := kr, val := xr }) clock) }, ?_, hI.setMap hl rfl hb (g2.set j q4 hx) (hI.immMap g1) (notMap g1)⟩
              have hstay : (Instr.keyThatStays (((es'[j]?).map (·.key)).getD kr) kr).run P w = .ok kr w := by
                unfold Instr.keyThatStays
                rw [hkey, if_pos hsb]
                rfl
              simp only [Instr.mapUpdate, Sem.run_bind, run_underlying q1, Result.andThen_ok, hg, q6, q7, hstay, setObj_run (P := P) g1 (by simp)]
            · cases h
      | _ => simp [hl] at h
  | _ => simp at h

theorem delete_ok (hI : Inv C W0 G S w) {T T' ty : TypeId} {m k : HV} {mr kr : Value} {S' : HS} (h : hdelete P T m k S = some S') (hm : V G m mr) (hk : V G k kr) :
    ∃ w', (Builtin.delete_ #[T, T'] ty #[mr, kr]).run P w = .ok (.tuple #[]) w' ∧ Inv C W0 G S' w' := by
  unfold hdelete at h
  cases hm with
  | @mp l b hb =>
    simp only at h
    cases hl : S l with
    | none => simp [hl] at h
    | some q =>
      cases q with
      | map es clock =>
        simp only [hl] at h
        obtain ⟨es', g1, g2⟩ := hI.mapAt hl hb
        have hg := getObj_run (P := P) g1 (by simp)
        cases hkk : hkey P T es k with
        | none => simp [hkk] at h
        | some q =>
          obtain ⟨kv, r⟩ := q
          simp only [hkk] at h
          obtain ⟨kt, et, q1, q2, q3, q4, q5, q6, r', q7, q8⟩ := hkey_spec (w := w) hkk hk g2
          subst q3
          have hemp : es'.toList.isEmpty = es'.isEmpty := by simp
          rw [hemp] at q5
          rcases q8 with ⟨rfl, rfl⟩ | ⟨j, x0, y0, rfl, rfl, hV, hj⟩
          · simp only at h
            injection h with h
            subst h
            refine ⟨{ w with heap := w.heap.setIfInBounds b (.map es' clock) }, ?_, hI.setMap hl rfl hb g2 (hI.immMap g1) (notMap g1)⟩
            simp [Builtin.delete_, run_underlying q1, hg, q5, q7, setObj_run (P := P) g1 (by simp)]
          · simp only at h
            injection h with h
            subst h
            have hlen := g2.1
            refine ⟨{ w with heap := w.heap.setIfInBounds b (.map (es'.eraseIdxIfInBounds j) clock) }, ?_, hI.setMap hl rfl hb ⟨?_, fun i e e' h1 h2 => ?_⟩ (hI.immMap g1) (notMap g1)⟩
            · simp [Builtin.delete_, run_underlying q1, hg, q5, q7, setObj_run (P := P) g1 (by simp)]
            · rw [Array.toList_eraseIdxIfInBounds, List.length_eraseIdx, List.length_eraseIdx, hlen]
            · rw [Array.toList_eraseIdxIfInBounds] at h2
              rw [List.getElem?_eraseIdx] at h1 h2
              split at h1
              · rename_i hij; rw [if_pos hij] at h2; exact g2.2 i e e' h1 h2
              · rename_i hij; rw [if_neg hij] at h2; exact g2.2 (i + 1) e e' h1 h2
      | _ => simp [hl] at h
  | _ => simp at h

theorem filter_EL {es : List HEntry} {es' : List MapEntry} (h : EL G es es') (p : Nat → Bool) : EL G (es.filter fun e => p e.born) (es'.filter fun e => p e.born) := by
  induction es generalizing es' with
  | nil =>
    cases es' with
    | nil => exact h
    | cons e' es' => have := h.1; simp at this
  | cons e es ih =>
    cases es' with
    | nil => have := h.1; simp at this
    | cons e' es' =>
      have h0 := h.2 0 e e' rfl rfl
      have ih' := ih h.tail
      simp only [List.filter_cons, h0.2.1]
      split
      · refine ⟨by have := ih'.1; simpa using this, fun i a b ha hb => ?_⟩
        cases i with
        | zero => simp at ha hb; subst ha; subst hb; exact h0
        | succ i => exact ih'.2 i a b (by simpa using ha) (by simpa using hb)
      · exact ih'

end Go.HL
