import Derived.Test.YtemjmjacmokidaaDoorH8
set_option linter.all false
/-! HL, part 9: each operation does in the model what HL says (5): append, copy, clear, make, conversions. -/
namespace Go.HL
open Go Go.RowKit
variable {P : Program} {C : Cfg} {W0 : World} {G : Ghost} {S : HS} {w : World}

theorem chunks_of (z : Nat) : ∀ (es : List (List HV)), (∀ e ∈ es, e.length = z) → chunks z es.length es.flatten = es
  | [], _ => rfl
  | e :: es, h => by
    have he := h e (by simp)
    simp only [List.length_cons, List.flatten_cons, chunks]
    rw [List.take_append_of_le_length (by omega), List.drop_append_of_le_length (by omega)]
    rw [List.take_of_length_le (by omega), List.drop_of_length_le (by omega), List.nil_append, chunks_of z es (fun e' h' => h e' (by simp [h']))]
theorem flatten_length {z : Nat} {es : List (List HV)} (hz : ∀ e ∈ es, e.length = z) : es.flatten.length = es.length * z := by
  rw [List.length_flatten]
  have : es.map List.length = List.replicate es.length z := by
    apply List.ext_getElem (by simp)
    intro i h1 h2
    simp at h1
    simp [hz es[i] (List.getElem_mem h1)]
  rw [this]
  simp

theorem V.slRow (hI : Inv C W0 G S w) {k : Tok} {z : Nat} {es : List (List HV)} {b o n cap : Nat} (h : V G (.sl k z es) (.slice (some ⟨b, o, none⟩) n cap)) :
    n = es.length ∧ n ≤ cap ∧ (∀ e ∈ es, e.length = z) ∧ (k = .full → cap = n) ∧ (∀ t, k = .live t → G.slk t = some (b, o + n * z, o + cap * z, z)) ∧
    ∃ olds, VL G es.flatten olds ∧ ∀ (j : Nat) y, olds[j]? = some y → G.imm b (o + j) = some y := by
  cases h with
  | mt h0 hk =>
    refine ⟨rfl, Nat.zero_le _, by simp, fun h => ?_, fun t h => ?_, [], VL.nil, by simp⟩
    · rcases hk with rfl | ⟨_, h'⟩
      · cases h
      · exact h'
    · rcases hk with rfl | ⟨rfl, _⟩ <;> cases h
  | @sl _ _ _ _ _ _ ys h0 hz hc hi hv hf ht =>
    refine ⟨rfl, hc, hz, hf, ht, ?_⟩
    let fs : List (List Value) := (List.range es.length).map fun i => (List.range z).map (ys i)
    have hvl : VL G es.flatten fs.flatten := by
      refine VL.flat (by simp [fs]) (fun i e f he hf => ?_)
      have hil : i < es.length := (List.getElem?_eq_some_iff.1 he).1
      simp [fs, hil] at hf
      subst hf
      refine ⟨by simp [hz e (List.mem_of_getElem? he)], fun j x y hx hy => ?_⟩
      have hj : j < z := by have := (List.getElem?_eq_some_iff.1 hx).1; rwa [hz e (List.mem_of_getElem? he)] at this
      simp [hj] at hy
      subst hy
      exact ⟨hv i e j x he hx, (hI.imm _ _ _ (hi i e j x he hx)).2⟩
    refine ⟨fs.flatten, hvl, ?_⟩
    have key : ∀ (es : List (List HV)) (ys : Nat → Nat → Value) (o : Nat), (∀ e ∈ es, e.length = z) → (∀ (i : Nat) (e : List HV) (j : Nat) (x : HV), es[i]? = some e → e[j]? = some x → G.imm b (o + i * z + j) = some (ys i j)) →
        ∀ (j : Nat) y, (((List.range es.length).map fun i => (List.range z).map (ys i)).flatten)[j]? = some y → G.imm b (o + j) = some y := by
      intro es
      induction es with
      | nil => intro ys o _ _ j y hj; simp at hj
      | cons e es ih =>
        intro ys o hz hi j y hj
        have he := hz e (by simp)
        rw [List.length_cons, List.range_succ_eq_map, List.map_cons, List.flatten_cons, List.map_map, List.getElem?_append] at hj
        split at hj
        · rename_i hlt
          simp at hlt
          simp [hlt] at hj
          subst hj
          have := hi 0 e j e[j] rfl (List.getElem?_eq_getElem (by omega))
          simpa using this
        · rename_i hge
          simp at hge
          have := ih (fun i j => ys (i + 1) j) (o + z) (fun e h => hz e (by simp [h])) (fun i e' j x h1 h2 => by
            have := hi (i + 1) e' j x (by simpa using h1) h2
            rw [Nat.add_mul, Nat.one_mul] at this
            rw [← this]; congr 1; omega) (j - z) y (by have h2 := hj; simp only [List.length_map, List.length_range] at h2; exact h2)
          rw [← this]; congr 1; omega
    exact key es ys o hz hi

theorem grownCap_ge (w : World) (need old : Nat) (e : TypeId) : need ≤ grownCap w need old e := by simp [grownCap, Question.cut]

theorem Inv.drew (hI : Inv C W0 G S w) : Inv C W0 G S w.drew := hI.world rfl rfl rfl rfl

theorem zeroCells_list (z : Value) (n s : Nat) (hs : z.cells.size = s) : (Builtin.zeroCells z.cells n).toList = (List.replicate n z.cells.toList).flatten := by
  unfold Builtin.zeroCells
  rw [hs, ← rangeZero z.cells n s hs, hs]

/-- An immutable slice in a new block. -/
theorem grow_imm (hI : Inv C W0 G S w) {t : Nat} (ht : S t = none) {es : List (List HV)} {cs : List Value} {z cap : Nat} {rest : List Value} (e : TypeId) (hlt : ∀ T, lt t = some T → T = e) (hz0 : 0 < z) (hz : ∀ x ∈ es, x.length = z) (hv : VL G es.flatten cs) (hc : es.length ≤ cap)
    (hrest : ∀ y ∈ rest, y.oneCell' = true) (hrl : rest.length = (cap - es.length) * z) (c : Array Value) (hcc : c.toList = cs ++ rest) :
    ∃ G', G.le G' ∧ V G' (.sl (.live t) z es) (.slice (some ⟨w.heap.size, 0, none⟩) es.length cap) ∧ Inv C W0 G' (S.set t .tok) (w.alloc (.cells c e)) := by
  have hfl := flatten_length hz
  have hcl : cs.length = es.length * z := by rw [← hv.1, hfl]
  have h1 : ∀ y ∈ c.toList, y.oneCell' = true := by
    intro y hy
    rw [hcc] at hy
    rcases List.mem_append.1 hy with h | h
    · exact hv.one h
    · exact hrest y h
  obtain ⟨hG1, hI1⟩ := hI.newImm c e (es.length * z) h1
  generalize hGd : G.immRow w.heap.size (es.length * z) c.toList = G1 at hG1 hI1
  have hnone : ∀ j, G.imm w.heap.size j = none := fun j => by
    cases h : G.imm w.heap.size j with
    | none => rfl
    | some y => exact absurd (hI.ibnd _ _ _ h) (Nat.lt_irrefl _)
  have himm1 : ∀ j, G1.imm w.heap.size j = if j < es.length * z then c.toList[j]? else none := by
    intro j
    rw [← hGd]
    show (if w.heap.size = w.heap.size then _ else _) = _
    rw [if_pos rfl, hnone]
  let G2 : Ghost := { G1 with slk := fun k => if k = t then some (w.heap.size, es.length * z, cap * z, z) else G1.slk k }
  have hslkG : G1.slk = G.slk := by rw [← hGd]; rfl
  have hblkG : G1.blk = G.blk := by rw [← hGd]; rfl
  have hG2 : G1.le G2 := ⟨fun _ _ _ h => h, fun _ _ h => h, fun k x h => by
    show (if k = t then _ else G1.slk k) = _
    by_cases e : k = t
    · subst e; rw [hI1.slkNone k ht] at h; cases h
    · rw [if_neg e]; exact h⟩
  have hmul : es.length * z ≤ cap * z := Nat.mul_le_mul_right z hc
  have hsub : (cap - es.length) * z = cap * z - es.length * z := Nat.sub_mul _ _ _
  have hsize : c.size = cap * z := by
    have : c.toList.length = cs.length + rest.length := by rw [hcc]; simp
    simp at this
    omega
  refine ⟨G2, hG1.trans hG2, ?_, ?_⟩
  · have := V.ofChunks (G := G2) (k := .live t) (cs := es.flatten) (ys := cs) (b := w.heap.size) (o := 0) (z := z) (n := es.length) (cap := cap) hz0 (hv.mono (hG1.trans hG2)) (by rw [hfl]; exact Nat.le_refl _) ?_ hc (by simp) ?_
    · rw [chunks_of z es hz] at this; exact this
    · intro j y hy hj
      show G1.imm _ _ = _
      rw [Nat.zero_add, himm1, if_pos hj, hcc, List.getElem?_append_left (by omega)]
      exact hy
    · intro t' ht'
      cases ht'
      show (if t = t then _ else _) = _
      simp
  · refine hI1.addTok t w.heap.size (es.length * z) (cap * z) z hG2 (Below.refl _ _) (fun _ _ _ => rfl) (fun _ _ _ => rfl) (fun o y hy => hI1.imm _ o y hy) ?_ ?_ rfl ht ?_ ?_ ?_ ⟨hI.below.size, by simp⟩ (fun _ h => h) (fun T h => by rw [hlt T h]; exact ⟨c, _, heap_alloc_new _ _, .inl rfl⟩)
    · show (if t = t then _ else _) = _
      rw [if_pos rfl]
    · intro k hk
      show (if k = t then _ else _) = _
      rw [if_neg hk]
    · intro k x hk hx hb
      rw [hblkG] at hb
      exact absurd (hI.bnd k _ hb).2 (Nat.lt_irrefl _)
    · intro k f to z' hk hs
      rw [hslkG] at hs
      exact absurd (hI.sbnd k _ f to z' hs).2 (Nat.lt_irrefl _)
    · refine ⟨⟨c, e, _, heap_alloc_new _ _, by omega⟩, fun j _ _ => by simp, fun j h1 _ => ?_⟩
      show G1.imm _ _ = _
      rw [himm1, if_neg (by omega)]

theorem append_ok (hI : Inv C W0 G S w) {T T' ty e : TypeId} {i : TyI} (hu : P.underlying T = some (.slice e)) (hi : tyI P e = some i) (hk : srcKind P T' = true) {x y : HV} {a b : Value} (hx : V G x a) (hy : V G y b)
    {ys : List (List HV)} (hr : hrow i.size S y = some ys) (hys : ∀ e ∈ ys, e.length = i.size) {m : Bool} {K : HV → HS → Prop} (h : happend m e i x ys S K) :
    ∃ v w' G' r S', (Builtin.append_ #[T, T'] ty #[a, b]).run P w = .ok v w' ∧ V G' r v ∧ K r S' ∧ G.le G' ∧ Inv C W0 G' S' w' := by
  obtain ⟨inf, d, z, h1, h2, h3, h4, h5, h6, h7, h8, h9⟩ := tyI_spec hi
  obtain ⟨news, hnv, hnl, hny⟩ := row_yield hI hr hy hys
  have hnone : ∀ u ∈ news, u.oneCell' = true := fun u hu => hnv.one hu
  rw [h7] at hnl hny
  have hsrc := hny.src hnl hnone (P := P) (T := T') hk
  have hzl : VL G i.zero z.cells.toList := by rw [h9]; exact zero_VL h4
  unfold happend at h
  by_cases hn0 : ys = []
  · rw [if_pos hn0] at h
    subst hn0
    have hn : news = [] := List.eq_nil_of_length_eq_zero (by simpa using hnl)
    subst hn
    cases hx with
    | nil => exact ⟨_, w, G, _, S, run_append_nothing w T T' ty e inf hu h1 _ 0 0 (Nat.le_refl _) b hsrc, .nil, h, .refl G, hI⟩
    | mt h0 hk => exact ⟨_, w, G, _, S, run_append_nothing w T T' ty e inf hu h1 _ _ _ (Nat.zero_le _) b hsrc, .mt h0 hk, h, .refl G, hI⟩
    | sl ys' h0 hz hc hi' hv hf ht => exact ⟨_, w, G, _, S, run_append_nothing w T T' ty e inf hu h1 _ _ _ hc b hsrc, .sl ys' h0 hz hc hi' hv hf ht, h, .refl G, hI⟩
    | ms hb hn => exact ⟨_, w, G, _, S, run_append_nothing w T T' ty e inf hu h1 _ _ _ hn b hsrc, .ms hb hn, h, .refl G, hI⟩
    | _ => exact h.elim
  · rw [if_neg hn0] at h
    have hpos : 0 < ys.length := List.length_pos_iff.2 hn0
    -- a growth into a new block, out of a slice's cells
    have grows : ∀ (ao : Option Addr) (n cap : Nat) (olds : List Value), a = .slice ao n cap → (Builtin.firstCells inf.size n (.slice ao n cap)).run P w.drew = .ok olds.toArray w.drew → cap < n + ys.length →
        (n + ys.length) * i.bytes ≤ roomy → n + ys.length ≤ roomy →
        (Builtin.append_ #[T, T'] ty #[a, b]).run P w = .ok (.slice (some ⟨w.heap.size, 0, none⟩) (n + ys.length) (grownCap w (n + ys.length) cap e))
          (w.drew.alloc (.cells ((olds ++ news).toArray ++ Builtin.zeroCells z.cells (grownCap w (n + ys.length) cap e - (n + ys.length))) e)) := by
      rintro ao n cap olds rfl hold hg hb1 hb2
      unfold roomy at hb1 hb2
      exact run_append_grow_src w T T' ty e inf z hu h1 h3 ao n cap olds hold b ys.length news hsrc hg (by omega) (growslice_fits hg (by rw [← h8]; exact hb1))
    have gcells : ∀ (olds : List Value) (k : Nat), ((olds ++ news).toArray ++ Builtin.zeroCells z.cells k).toList = (olds ++ news) ++ (List.replicate k z.cells.toList).flatten := by
      intro olds k
      rw [Array.toList_append, zeroCells_list z k inf.size h5]
    have zone : ∀ (k : Nat), ∀ y ∈ (List.replicate k z.cells.toList).flatten, y.oneCell' = true := fun k y hy => (zeros_VL hzl k).one hy
    have zlen : ∀ k, ((List.replicate k z.cells.toList).flatten).length = k * i.size := by intro k; rw [zeros_length]; simp [h5, h7]
    have mutRow : ∀ (olds : List Value) (cs : List HV) (n cap : Nat), VL G cs olds → cap < n + ys.length → (∀ l c, S l = none → n + ys.length ≤ c → K (.ms l 0 (n + ys.length) c) (S.set l (.row (cs ++ ys.flatten ++ zeros (c - (n + ys.length)) i.zero)))) →
        ∃ G' r S', V G' r (.slice (some ⟨w.heap.size, 0, none⟩) (n + ys.length) (grownCap w (n + ys.length) cap e)) ∧ K r S' ∧ G.le G' ∧
          Inv C W0 G' S' (w.drew.alloc (.cells ((olds ++ news).toArray ++ Builtin.zeroCells z.cells (grownCap w (n + ys.length) cap e - (n + ys.length))) e)) := by
      intro olds cs n cap hov hg hK
      obtain ⟨l, hl, hln⟩ := hI.some_fresh none
      have hge := grownCap_ge w (n + ys.length) cap e
      obtain ⟨G', hG, hb, hI'⟩ := hI.drew.newRow hl (cs := cs ++ ys.flatten ++ zeros (grownCap w (n + ys.length) cap e - (n + ys.length)) i.zero)
        (c := (olds ++ news).toArray ++ Builtin.zeroCells z.cells (grownCap w (n + ys.length) cap e - (n + ys.length))) e (by rw [gcells]; exact (hov.append hnv).append (zeros_VL hzl _)) (lt_none hln)
      exact ⟨G', _, _, .ms hb hge, hK l _ hl hge, hG, hI'⟩
    cases hx with
    | @nil zz =>
      simp only [List.length_nil, Nat.zero_add, List.flatten_nil, List.nil_append] at h
      obtain ⟨hsz, hb1, hb2, h⟩ := h
      have hrun := grows none 0 0 [] rfl (by simp [Builtin.firstCells]) (by omega) (by simpa using hb1) (by simpa using hb2)
      cases m with
      | true =>
        simp only [if_true] at h
        obtain ⟨_, _, h⟩ := h
        obtain ⟨G', r, S', k1, k2, k3, k4⟩ := mutRow [] [] 0 0 VL.nil (by omega) (by simpa using h)
        exact ⟨_, _, G', r, S', hrun, k1, k2, k3, k4⟩
      | false =>
        simp only [Bool.false_eq_true, if_false] at h
        obtain ⟨_, h⟩ := h
        obtain ⟨t, ht, hlt⟩ := hI.some_fresh (some e)
        have hge := grownCap_ge w (0 + ys.length) 0 e
        simp only [Nat.zero_add] at hge hrun
        obtain ⟨G', k1, k2, k3⟩ := grow_imm hI.drew ht (cap := grownCap w ys.length 0 e) e (lt_some hlt rfl) hsz hys hnv hge (zone (grownCap w ys.length 0 e - ys.length)) (zlen _)
          (([] ++ news).toArray ++ Builtin.zeroCells z.cells (grownCap w ys.length 0 e - ys.length)) (by rw [gcells]; rfl)
        exact ⟨_, _, G', _, _, hrun, k2, h t ht hlt, k1, k3⟩
    | @mt k zz ao cap h0 hkk =>
      simp only [List.length_nil, Nat.zero_add, List.flatten_nil, List.nil_append] at h
      obtain ⟨hsz, hb1, hb2, h⟩ := h
      rcases hkk with rfl | ⟨rfl, rfl⟩
      · cases m with
        | true => simp only [if_true] at h; exact absurd h.1 (by simp)
        | false => exact h.elim
      have hrun := grows ao 0 0 [] rfl (by cases ao with
        | none => simp [Builtin.firstCells]
        | some a => exact run_firstCells_some w.drew inf.size 0 a 0 0 [] (by simp) (by simp)) (by omega) (by simpa using hb1) (by simpa using hb2)
      cases m with
      | true =>
        simp only [if_true] at h
        obtain ⟨_, _, h⟩ := h
        obtain ⟨G', r, S', k1, k2, k3, k4⟩ := mutRow [] [] 0 0 VL.nil (by omega) (by simpa using h)
        exact ⟨_, _, G', r, S', hrun, k1, k2, k3, k4⟩
      | false =>
        simp only [Bool.false_eq_true, if_false] at h
        obtain ⟨_, h⟩ := h
        obtain ⟨t, ht, hlt⟩ := hI.some_fresh (some e)
        have hge := grownCap_ge w (0 + ys.length) 0 e
        simp only [Nat.zero_add] at hge hrun
        obtain ⟨G', k1, k2, k3⟩ := grow_imm hI.drew ht (cap := grownCap w ys.length 0 e) e (lt_some hlt rfl) hsz hys hnv hge (zone (grownCap w ys.length 0 e - ys.length)) (zlen _)
          (([] ++ news).toArray ++ Builtin.zeroCells z.cells (grownCap w ys.length 0 e - ys.length)) (by rw [gcells]; rfl)
        exact ⟨_, _, G', _, _, hrun, k2, h t ht hlt, k1, k3⟩
    | @sl k zz es bb o cap ysf h0 hz hc hi' hv hf ht =>
      obtain ⟨hsz, hb1, hb2, h⟩ := h
      have hV : V G (.sl k zz es) (.slice (some ⟨bb, o, none⟩) es.length cap) := .sl ysf h0 hz hc hi' hv hf ht
      obtain ⟨_, _, _, _, _, olds, hov, hoi⟩ := V.slRow hI hV
      have hol : olds.length = es.length * zz := by rw [← hov.1, flatten_length hz]
      have hone : ∀ (j : Nat) y, olds[j]? = some y → y.oneCell' = true := fun j y hy => hov.one (List.mem_of_getElem? hy)
      have hcell : ∀ (j : Nat) y, olds[j]? = some y → w.cell? ⟨bb, o + j, none⟩ = some y := fun j y hy => (hI.imm _ _ _ (hoi j y hy)).1
      have hfirst : zz = i.size ∨ es = [] → (Builtin.firstCells inf.size es.length (.slice (some ⟨bb, o, none⟩) es.length cap)).run P w.drew = .ok olds.toArray w.drew := by
        intro hzz
        refine run_firstCells_some w.drew inf.size es.length _ _ _ olds ?_ (fun j v hv => by rw [add_plain']; simpa using hcell j v hv)
        rcases hzz with e | e
        · rw [hol, e, h7]
        · subst e; simpa using hol
      cases m with
      | true =>
        simp only [if_true] at h
        obtain ⟨hk', hzz, h⟩ := h
        have hcap := hf hk'
        have hrun := grows _ _ _ olds rfl (hfirst hzz) (by omega) hb1 hb2
        obtain ⟨G', r, S', k1, k2, k3, k4⟩ := mutRow olds es.flatten es.length cap hov (by omega) h
        exact ⟨_, _, G', r, S', hrun, k1, k2, k3, k4⟩
      | false =>
        simp only [Bool.false_eq_true, if_false] at h
        have growI : ∀ (S1 : HS) (t : Nat), Inv C W0 G S1 w → S1 t = none → lt t = some e → (zz = i.size ∨ es = []) → cap < es.length + ys.length → K (.sl (.live t) i.size (es ++ ys)) (S1.set t .tok) →
            ∃ v w' G' r S', (Builtin.append_ #[T, T'] ty #[.slice (some ⟨bb, o, none⟩) es.length cap, b]).run P w = .ok v w' ∧ V G' r v ∧ K r S' ∧ G.le G' ∧ Inv C W0 G' S' w' := by
          intro S1 t hI1 ht1 hlt hzz hg hK
          have hrun := grows _ _ _ olds rfl (hfirst hzz) hg hb1 hb2
          have hzall : ∀ x ∈ es ++ ys, x.length = i.size := by
            intro x hx
            rcases List.mem_append.1 hx with h | h
            · rcases hzz with e | e
              · rw [← e]; exact hz x h
              · subst e; cases h
            · exact hys x h
          have hge := grownCap_ge w (es.length + ys.length) cap e
          obtain ⟨G', k1, k2, k3⟩ := grow_imm hI1.drew ht1 (es := es ++ ys) (cs := olds ++ news) (cap := grownCap w (es.length + ys.length) cap e) e (lt_some hlt rfl) hsz hzall (by rw [List.flatten_append]; exact hov.append hnv) (by simpa using hge)
            (zone (grownCap w (es.length + ys.length) cap e - (es ++ ys).length)) (zlen _) ((olds ++ news).toArray ++ Builtin.zeroCells z.cells (grownCap w (es.length + ys.length) cap e - (es.length + ys.length))) (by rw [gcells, List.length_append])
          rw [List.length_append] at k2
          exact ⟨_, _, G', _, _, hrun, k2, hK, k1, k3⟩
        cases k with
        | none => exact h.elim
        | full =>
          obtain ⟨hzz, h⟩ := h
          have hcap := hf rfl
          obtain ⟨t, ht, hlt⟩ := hI.some_fresh (some e)
          exact growI S t hI ht hlt hzz (by omega) (h t ht hlt)
        | live t0 =>
          obtain ⟨hzz, ht0, h⟩ := h
          have hId := hI.dead t0
          by_cases hroom : es.length + ys.length ≤ cap
          · obtain ⟨t, htn, hlt⟩ := hI.some_fresh (lt t0)
            have htt : t ≠ t0 := fun e => by subst e; rw [ht0] at htn; cases htn
            have htd : (S.set t0 .dead) t = none := by rw [HS.set_ne _ _ htt]; exact htn
            subst hzz
            have hs0 := ht t0 rfl
            obtain ⟨b', f, to, z', hs1, hsl⟩ := hI.tok t0 ht0
            rw [hs0] at hs1
            simp only [Option.some.injEq, Prod.mk.injEq] at hs1
            obtain ⟨rfl, rfl, rfl, rfl⟩ := hs1
            have e1 : es.length * i.size ≤ cap * i.size := Nat.mul_le_mul_right _ hc
            have e2 : (es.length + ys.length) * i.size ≤ cap * i.size := Nat.mul_le_mul_right _ hroom
            have e3 : (es.length + ys.length) * i.size = es.length * i.size + ys.length * i.size := Nat.add_mul _ _ _
            rw [← h7] at hnl
            obtain ⟨⟨cc, TT, fz, hce, hcl⟩, hun, hfree⟩ := hsl
            have hth : w.there bb (o + es.length * i.size) news.length := there_row hce (by omega) (fun j h1 h2 => hun j (by omega) (by omega))
            have hrun := run_append_room_src w T T' ty e inf hu h1 bb o es.length cap b ys.length news hsrc hroom (by rw [← h7]; exact fun j hj => (hth j hj).1) (by rw [← h7]; exact fun j hj => (hth j hj).2)
            rw [← h7] at hrun
            let G' : Ghost := { G with
              imm := fun b' q => if b' = bb ∧ o + es.length * i.size ≤ q ∧ q < o + (es.length + ys.length) * i.size then news[q - (o + es.length * i.size)]? else G.imm b' q
              slk := fun k => if k = t then some (bb, o + (es.length + ys.length) * i.size, o + cap * i.size, i.size) else G.slk k }
            have hG : G.le G' := by
              refine ⟨fun b' q y hy => ?_, fun _ _ h => h, fun k x h => ?_⟩
              · show (if _ then _ else _) = _
                rw [if_neg]
                · exact hy
                · rintro ⟨rfl, q1, q2⟩
                  rw [hfree q q1 (by omega)] at hy
                  cases hy
              · show (if k = t then _ else _) = _
                by_cases ek : k = t
                · subst ek; rw [hI.slkNone k htn] at h; cases h
                · rw [if_neg ek]; exact h
            obtain ⟨cc', hce', hcl'⟩ := setCells_at bb news (o + es.length * i.size) w cc hce (by omega)
            have hsb := hI.sbnd t0 _ _ _ _ hs0
            have hlen' : cc'.size = cc.size := by
              have : cc'.toList.length = cc.toList.length := by rw [hcl']; simp; omega
              simpa using this
            refine ⟨_, _, G', .sl (.live t) i.size (es ++ ys), _, hrun, ?_, h t htn (.inr hlt), hG, ?_⟩
            · have hzall : ∀ x ∈ es ++ ys, x.length = i.size := by
                intro x hx
                rcases List.mem_append.1 hx with h | h
                · exact hz x h
                · exact hys x h
              have := V.ofChunks (G := G') (k := .live t) (cs := (es ++ ys).flatten) (ys := olds ++ news) (b := bb) (o := o) (z := i.size) (n := (es ++ ys).length) (cap := cap) hsz
                (by rw [List.flatten_append]; exact (hov.append hnv).mono hG) (by rw [flatten_length hzall]; exact Nat.le_refl _) ?_ (by rw [List.length_append]; exact hroom) (by simp) ?_
              · rw [chunks_of _ _ hzall, List.length_append] at this; exact this
              · intro j y hy hj
                rw [List.length_append] at hj
                show (if _ then _ else _) = _
                rw [List.getElem?_append] at hy
                split at hy
                · rename_i hj1
                  rw [if_neg (by rintro ⟨_, q1, _⟩; omega)]
                  exact hoi j y hy
                · rename_i hj1
                  rw [if_pos ⟨rfl, by omega, by omega⟩]
                  rw [← hy]
                  congr 1
                  omega
              · intro t' ht'
                cases ht'
                show (if t = t then _ else _) = _
                rw [if_pos rfl, List.length_append]
            · refine hId.addTok t bb (o + (es.length + ys.length) * i.size) (o + cap * i.size) i.size hG (Below.setCells bb news _ w hsb.1) (fun b' hb' _ => setCells_other bb news _ w b' hb') ?_ ?_ ?_ ?_ rfl htd ?_ ?_ ?_ ⟨hsb.1, by rw [setCells_size]; exact hsb.2⟩
                (fun T h => by obtain ⟨c2, fz2, h2⟩ := h; rw [hce] at h2; cases h2; exact ⟨cc', fz, hce'⟩)
                (fun T h => by
                  obtain ⟨c2, fz2, h2, h3⟩ := hI.styp t0 bb _ _ _ T ht0 hs0 (by rw [← hlt]; exact h)
                  rw [hce] at h2; cases h2
                  exact ⟨cc', fz, hce', h3.imp id (fun h => Nat.le_trans h (by omega))⟩)
              · intro b' q hb'
                show (if _ then _ else _) = _
                rw [if_neg (by rintro ⟨e, _⟩; exact hb' e)]
              · intro q y hy
                by_cases hq : o + es.length * i.size ≤ q ∧ q < o + (es.length + ys.length) * i.size
                · have hy' : (if bb = bb ∧ o + es.length * i.size ≤ q ∧ q < o + (es.length + ys.length) * i.size then news[q - (o + es.length * i.size)]? else G.imm bb q) = some y := hy
                  rw [if_pos ⟨rfl, hq⟩] at hy'
                  refine ⟨?_, hnone y (List.mem_of_getElem? hy')⟩
                  have := World.rangeAt_setCells_same w bb (o + es.length * i.size) news hth (q - (o + es.length * i.size)) y hy'
                  rwa [show o + es.length * i.size + (q - (o + es.length * i.size)) = q by omega] at this
                · have hy' : (if bb = bb ∧ o + es.length * i.size ≤ q ∧ q < o + (es.length + ys.length) * i.size then news[q - (o + es.length * i.size)]? else G.imm bb q) = some y := hy
                  rw [if_neg (by rintro ⟨_, h⟩; exact hq h)] at hy'
                  rw [World.cell?_setCells_out bb news _ w ⟨bb, q, none⟩ (fun _ _ => by simp only; omega)]
                  exact hI.imm bb q y hy'
              · show (if t = t then _ else _) = _
                rw [if_pos rfl]
              · intro k hk
                show (if k = t then _ else _) = _
                rw [if_neg hk]
              · intro k x hk hx hb
                have hk' : S k = some x := by
                  by_cases e : k = t0
                  · subst e; rw [HS.set_same] at hk; cases hk; simp [HObj.heavy] at hx
                  · rwa [HS.set_ne _ _ e] at hk
                exact hI.tb t0 k x bb _ _ _ ht0 hk' hx hs0 hb
              · intro k f to z' hk hs
                by_cases e : k = t0
                · subst e; rw [HS.set_same] at hk; cases hk
                · rw [HS.set_ne _ _ e] at hk
                  exact e (hI.tinj k t0 bb _ _ _ _ _ _ hk ht0 hs hs0)
              · refine ⟨⟨cc', TT, fz, hce', by omega⟩, fun j h1 h2 => ?_, fun j h1 h2 => ?_⟩
                · rw [World.frozen?_setCells]
                  exact hun j (by omega) h2
                · show (if _ then _ else _) = _
                  rw [if_neg (by rintro ⟨_, _, q⟩; omega)]
                  exact hfree j (by omega) h2
          · obtain ⟨t, htn, hlt⟩ := hI.some_fresh (some e)
            have htt : t ≠ t0 := fun e => by subst e; rw [ht0] at htn; cases htn
            have htd : (S.set t0 .dead) t = none := by rw [HS.set_ne _ _ htt]; exact htn
            exact growI (S.set t0 .dead) t hId htd hlt (.inl hzz) (by omega) (h t htn (.inl hlt))
    | @ms l o n c bb hb hn =>
      simp only at h
      cases hl : S l with
      | none => simp [hl] at h
      | some q =>
        cases q with
        | row cs =>
          simp only [hl] at h
          obtain ⟨hsz, hcap, hnc, hb1, hb2, h⟩ := h
          obtain ⟨cc, TT, fz, hce, hcv, hcr, hun, hfree⟩ := hI.rowRange hl hb
          have hcl : cc.size = cs.length := by have := hcv.1; simpa using this.symm
          have e1 : n * i.size ≤ c * i.size := Nat.mul_le_mul_right _ hnc
          split at h
          · rename_i hroom
            have e2 : (n + ys.length) * i.size ≤ c * i.size := Nat.mul_le_mul_right _ hroom
            have e3 : (n + ys.length) * i.size = n * i.size + ys.length * i.size := Nat.add_mul _ _ _
            have hyl := flatten_length hys
            obtain ⟨hth, hI'⟩ := hI.storeRow hl hb (o := o + n * i.size) (xs := ys.flatten) (vs := news) hnv (by omega)
            have hrun := run_append_room_src w T T' ty e inf hu h1 bb o n c b ys.length news hsrc hroom (by rw [← h7]; exact fun j hj => (hth j hj).1) (by rw [← h7]; exact fun j hj => (hth j hj).2)
            rw [← h7] at hrun
            exact ⟨_, _, G, _, _, hrun, .ms hb (by omega), h, .refl G, hI'⟩
          · rename_i hroom
            have hor : w.rangeAt bb o ((cc.toList.drop o).take (n * i.size)) := by
              have := rangeAt_take (rangeAt_drop hcr o) (n * i.size)
              rwa [Nat.zero_add] at this
            have hrun := grows _ _ _ ((cc.toList.drop o).take (n * i.size)) rfl (run_firstCells_some w.drew inf.size n _ _ _ _ (by simp [h7, hcl] at e1 hcap ⊢; omega) (fun j v hv => by rw [add_plain']; simpa using hor j v hv)) (by omega) hb1 hb2
            obtain ⟨G', r, S', k1, k2, k3, k4⟩ := mutRow _ _ n c ((hcv.drop o).take (n * i.size)) (by omega) h
            exact ⟨_, _, G', r, S', hrun, k1, k2, k3, k4⟩
        | _ => simp [hl] at h
    | _ => exact h.elim

end Go.HL
