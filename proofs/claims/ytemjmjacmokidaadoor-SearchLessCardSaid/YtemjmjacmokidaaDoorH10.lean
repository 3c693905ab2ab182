import Derived.Test.YtemjmjacmokidaaDoorH9
import Derived.IntWalk
set_option linter.all false
/-! HL, part 10: each operation does in the model what HL says (6): copy, clear, make, conversions, maps. -/
namespace Go.HL
open Go Go.RowKit
variable {P : Program} {C : Cfg} {W0 : World} {G : Ghost} {S : HS} {w : World}

theorem flatten_take {z : Nat} : ∀ (es : List (List HV)) (k : Nat), (∀ e ∈ es, e.length = z) → (es.take k).flatten = es.flatten.take (k * z)
  | [], k, _ => by simp
  | e :: es, 0, _ => by simp
  | e :: es, k + 1, h => by
    have he := h e (by simp)
    simp only [List.take_succ_cons, List.flatten_cons]
    rw [flatten_take es k (fun e' h' => h e' (by simp [h'])), List.take_append, he]
    have e0 : (k + 1) * z = z + k * z := by rw [Nat.add_mul]; omega
    rw [e0]
    have e1 : e.take (z + k * z) = e := List.take_of_length_le (by omega)
    have e2 : z + k * z - z = k * z := by omega
    rw [e1, e2]

theorem copy_ok (hI : Inv C W0 G S w) {T T' ty e : TypeId} {i : TyI} (hu : P.underlying T = some (.slice e)) (hi : tyI P e = some i) {l p n c : Nat} {y : HV} {a b : Value} (hx : V G (.ms l p n c) a) (hy : V G y b)
    {ys : List (List HV)} (hr : hrow i.size S y = some ys) (hys : ∀ e ∈ ys, e.length = i.size) {cs : List HV} (hl : S l = some (.row cs)) (hle : p + n * i.size ≤ cs.length) :
    ∃ w', (Builtin.copy_ #[T, T'] ty #[a, b]).run P w = .ok (.int .i64 (min ys.length n)) w' ∧ Inv C W0 G (S.set l (.row (splice cs p (ys.take n).flatten))) w' := by
  obtain ⟨inf, d, z, h1, h2, h3, h4, h5, h6, h7, h8, h9⟩ := tyI_spec hi
  obtain ⟨news, hnv, hnl, hny⟩ := row_yield hI hr hy hys
  cases hx with
  | @ms _ _ _ _ bb hb hn =>
    have hft := flatten_take ys n hys
    have hv : VL G (ys.take n).flatten (news.take (n * i.size)) := by rw [hft]; exact hnv.take _
    have hfl := flatten_length hys
    have hle2 : p + (ys.take n).flatten.length ≤ cs.length := by
      rw [hft]
      simp
      omega
    obtain ⟨hth, hI'⟩ := hI.storeRow hl hb hv hle2
    refine ⟨_, ?_, hI'⟩
    have hmin : Nat.min ys.length n = min ys.length n := rfl
    have hlen : (news.take (n * i.size)).length = Nat.min ys.length n * inf.size := by
      rw [List.length_take, hnl, h7, hmin]
      rcases Nat.le_total ys.length n with hc | hc
      · rw [Nat.min_eq_left hc, Nat.min_eq_right (Nat.mul_le_mul_right _ hc)]
      · rw [Nat.min_eq_right hc, Nat.min_eq_left (Nat.mul_le_mul_right _ hc)]
    have hlo : (Builtin.lenOf b).run P w = .ok ys.length w := by
      cases hny with
      | nil h => rw [h]; rfl
      | mt h => rw [h]; rfl
      | slice h hc => rfl
      | string hz hn h => rw [hn]; rfl
    have hfc : (Builtin.firstCells inf.size (Nat.min ys.length n) b).run P w = .ok (news.take (n * i.size)).toArray w := by
      cases hny with
      | @nil c h =>
        have : news.take (n * i.size) = [] := List.eq_nil_of_length_eq_zero (by rw [hlen, h]; simp)
        rw [this]
        exact run_firstCells_none w inf.size _ _ c
      | @mt a c h =>
        have : news.take (n * i.size) = [] := List.eq_nil_of_length_eq_zero (by rw [hlen, h]; simp)
        rw [this]
        have : Nat.min ys.length n = 0 := by rw [h]; simp
        rw [this]
        exact run_firstCells_some w inf.size 0 _ _ _ [] (by simp) (by simp)
      | @slice b' o' c' h hc =>
        exact run_firstCells_some w inf.size _ _ _ _ _ hlen (fun j v hv => by rw [add_plain']; exact rangeAt_take h _ j v hv)
      | @string s hz hn h =>
        subst h
        rw [h7] at hz
        simp only [Builtin.firstCells, Sem.run_pure, Result.ok.injEq, and_true]
        apply Array.ext'
        rw [h7, hz, Nat.mul_one]
        rw [hmin, hn]
        simp [byteCells]
        exact Nat.min_comm _ _
    have hst := run_storeCells_cells (P := P) bb p (news.take (n * i.size)) 0 w (fun j hj => by simpa using (hth j hj).1) (fun j hj => by simpa using (hth j hj).2) (fun v hv => hnv.one (List.mem_of_mem_take hv))
    simp only [Nat.add_zero] at hst
    have hmi : ((Nat.min ys.length n : Nat) : Int) = min (ys.length : Int) (n : Int) := by rw [hmin]; omega
    simp [Builtin.copy_, run_underlying hu, hlo, sizeOf, typeInfo, h1, hfc, hst, goInt, hmi]

theorem clear_ok (hI : Inv C W0 G S w) {T ty e : TypeId} {i : TyI} (hu : P.underlying T = some (.slice e)) (hi : tyI P e = some i) {l p n c : Nat} {a : Value} (hx : V G (.ms l p n c) a) {cs : List HV} (hl : S l = some (.row cs)) (hle : p + n * i.size ≤ cs.length) :
    ∃ w', (Builtin.clear_ #[T] ty #[a]).run P w = .ok (.tuple #[]) w' ∧ Inv C W0 G (S.set l (.row (splice cs p (zeros n i.zero)))) w' := by
  obtain ⟨inf, d, z, h1, h2, h3, h4, h5, h6, h7, h8, h9⟩ := tyI_spec hi
  have hzl : VL G i.zero z.cells.toList := by rw [h9]; exact zero_VL h4
  cases hx with
  | @ms _ _ _ _ bb hb hn =>
    have hv := zeros_VL hzl n
    have hzlen : (zeros n i.zero).length = n * i.size := by
      have := hv.1; rw [zeros_length] at this; rw [this]; simp [h5, h7]
    obtain ⟨hth, hI'⟩ := hI.storeRow hl hb (o := p) hv (by omega)
    by_cases h0 : n = 0
    · subst h0
      have e1 : zeros 0 i.zero = [] := by simp [zeros]
      have e2 : (S.set l (.row (splice cs p (zeros 0 i.zero)))) = S := by
        funext k
        by_cases hk : k = l
        · subst hk; rw [HS.set_same, hl, e1]; simp [splice]
        · rw [HS.set_ne _ _ hk]
      rw [e2]
      exact ⟨w, by simp [Builtin.clear_, run_underlying hu], hI⟩
    · refine ⟨_, ?_, hI'⟩
      have hst := run_storeCells_cells (P := P) bb p (List.replicate n z.cells.toList).flatten 0 w (fun j hj => by simpa using (hth j hj).1) (fun j hj => by simpa using (hth j hj).2) (fun v hv' => hv.one hv')
      simp only [Nat.add_zero] at hst
      rw [← zeroCells_list z n inf.size h5] at hst ⊢
      obtain ⟨m, rfl⟩ : ∃ m, n = m + 1 := ⟨n - 1, by omega⟩
      simp [Builtin.clear_, run_underlying hu, zeroValue, typeInfo, h1, h3, hst]

theorem makeSlice_ok (hI : Inv C W0 G S w) {T e : TypeId} {i : TyI} (hu : P.underlying T = some (.slice e)) (hi : tyI P e = some i) {lx cx : HV} {la ca : Value} (hl : V G lx la) (hc : V G cx ca) {l c : Int} (hlx : hint lx = some l) (hcx : hint cx = some c)
    (h0 : 0 ≤ l) (hlc : l ≤ c) (hb : c.toNat * i.bytes ≤ roomy) (h62 : c ≤ 4611686018427387904) {r : Nat} (hr : S r = none) (hrt : lt r = none) :
    ∃ y w' G', (Instr.makeSlice T la ca).run P w = .ok y w' ∧ V G' (.ms r 0 l.toNat c.toNat) y ∧ G.le G' ∧ Inv C W0 G' (S.set r (.row (zeros c.toNat i.zero))) w' := by
  obtain ⟨inf, d, z, h1, h2, h3, h4, h5, h6, h7, h8, h9⟩ := tyI_spec hi
  have hzl : VL G i.zero z.cells.toList := by rw [h9]; exact zero_VL h4
  obtain ⟨k1, rfl, rfl⟩ := hint_V hl hlx
  obtain ⟨k2, rfl, rfl⟩ := hint_V hc hcx
  have wl : IntKind.i64.wrap l = l := IntWalk.i64_in _ (by omega)
  have wc : IntKind.i64.wrap c = c := IntWalk.i64_in _ (by omega)
  have hcn : ((c.toNat : Nat) : Int) = c := by omega
  have hbb : ¬ (281474976710656 < (inf.bytes : Int) * c) := by
    unfold roomy at hb
    rw [h8] at hb
    have : ((c.toNat * inf.bytes : Nat) : Int) ≤ 140737488355328 := by
      generalize c.toNat * inf.bytes = q at hb
      omega
    rw [Int.natCast_mul, hcn, Int.mul_comm] at this
    omega
  obtain ⟨G', hG, hbk, hI'⟩ := hI.newRow hr (cs := zeros c.toNat i.zero) (c := (Array.range (c.toNat * inf.size)).map (fun i => z.cells[i % z.cells.size]!)) e (by rw [rangeZero z.cells c.toNat inf.size h5]; exact zeros_VL hzl _) (lt_none hrt)
  refine ⟨.slice (some ⟨w.heap.size, 0, none⟩) l.toNat c.toNat, _, G', ?_, .ms hbk (by omega), hG, hI'⟩
  have hc0 : ¬ c < 0 := by omega
  have hl0 : ¬ l < 0 := by omega
  have hlc' : ¬ c < l := by omega
  by_cases hz : c.toNat * inf.size = 0
  · have e1 : Array.map (fun i => z.cells[i % z.cells.size]!) (Array.range (c.toNat * inf.size)) = #[] := by rw [hz]; simp
    rw [e1]
    simp [Instr.makeSlice, run_underlying hu, asInt, asIntOf, typeInfo, h1, wl, wc, hc0, hl0, hlc', hbb, sizeOf, hz, newRow, show Array.range 0 = #[] from rfl]
  · have hz' : ¬ (c.toNat = 0 ∨ inf.size = 0) := by rw [← Nat.mul_eq_zero]; exact hz
    simp [Instr.makeSlice, run_underlying hu, asInt, asIntOf, typeInfo, h1, wl, wc, hc0, hl0, hlc', hbb, sizeOf, hz, zeroValue, h3, newRow]

theorem hbytes_spec : ∀ {es : List (List HV)} {bs : List UInt8}, hbytes es = some bs → ∃ ns : List Int, es = ns.map (fun n => [HV.int .u8 n]) ∧ bs = ns.map (fun n => UInt8.ofNat n.toNat)
  | [], bs, h => by simp [hbytes] at h; exact ⟨[], rfl, by simp [h]⟩
  | e :: es, bs, h => by
    unfold hbytes at h
    split at h
    · rename_i heq; cases heq
    · rename_i n es' heq
      cases heq
      simp only [Option.map_eq_some_iff] at h
      obtain ⟨bs', hb, rfl⟩ := h
      obtain ⟨ns, rfl, rfl⟩ := hbytes_spec hb
      exact ⟨n :: ns, rfl, rfl⟩
    · cases h

theorem bytesToString_ok (hI : Inv C W0 G S w) {src dst e : TypeId} (hs : P.underlying src = some (.slice e)) (he : P.underlying e = some (.int .u8)) (hd : P.underlying dst = some .string) {x : HV} {y : Value} (hx : V G x y) (hxs : ∀ s, x ≠ .v s)
    {es : List (List HV)} {bs : List UInt8} (hr : hrow 1 S x = some es) (hb : hbytes es = some bs) : (convert src dst y).run P w = .ok (.string ⟨bs.toArray⟩) w := by
  obtain ⟨ns, rfl, rfl⟩ := hbytes_spec hb
  obtain ⟨news, hv, hl, hy⟩ := row_yield hI hr hx (by intro e he; obtain ⟨n, _, rfl⟩ := List.mem_map.1 he; rfl)
  have hfl : (ns.map (fun n => [HV.int .u8 n])).flatten = ns.map (fun n => HV.int .u8 n) := by
    clear hr hb hv hl hy
    induction ns with
    | nil => rfl
    | cons n ns ih => simp [ih]
  rw [hfl] at hv
  have hnews : news = ns.map (Value.int .u8) := by
    apply List.ext_getElem?
    intro j
    by_cases hj : j < ns.length
    · obtain ⟨y, hy, hV, _⟩ := hv.get (j := j) (x := .int .u8 ns[j]) (by simp [hj])
      rw [hy]
      cases hV
      simp [hj]
    · have hl1 := hv.1
      simp at hl1
      rw [List.getElem?_eq_none (by omega), List.getElem?_eq_none (by simp; omega)]
  cases hy with
  | @nil c h =>
    simp at h
    subst h
    have := run_convert_bytes_nil (P := P) w src e hs he 0 c dst hd
    rw [this]
    rfl
  | @mt a c h =>
    simp at h
    subst h
    obtain ⟨b, o, sp⟩ := a
    have hr : (convert src dst (.slice (some ⟨b, o, sp⟩) 0 c)).run P w = .ok (.string ByteArray.empty) w := by
      rw [run_convert_bytes_string w src dst e _ 0 c hs he hd]
      simp [Conv.bytesToString, loadCells]
      try rfl
    rw [hr]
    rfl
  | @slice b o c h hc =>
    have := run_convert_bytes_arg (P := P) w src e hs he b o ns.length c ns rfl (fun i hi => h i _ (by rw [hnews]; simp [hi])) dst hd
    simpa [strOfNums] using this
  | string _ _ _ =>
    cases hx with
    | v h => exact absurd rfl (hxs _)

theorem stringToBytes_mut (hI : Inv C W0 G S w) {src dst e : TypeId} {u : TypeDesc} (hs : P.underlying src = some u) (hd : P.underlying dst = some (.slice e)) (he : P.underlying e = some (.int .u8)) (s : ByteArray) {l : Nat} (hl : S l = none) (hlt : lt l = none) :
    ∃ G' c, s.size ≤ c ∧ (convert src dst (.string s)).run P w = .ok (.slice (some ⟨w.heap.size, 0, none⟩) s.size c) (Lib.bytesWorld w e s) ∧ V G' (.ms l 0 s.size c) (.slice (some ⟨w.heap.size, 0, none⟩) s.size c) ∧ G.le G' ∧
      Inv C W0 G' (S.set l (.row ((s.data.toList.map fun b => HV.int .u8 b.toNat) ++ List.replicate (c - s.size) (.int .u8 0)))) (Lib.bytesWorld w e s) := by
  let G' : Ghost := { G with blk := fun k => if k = l then some w.heap.size else G.blk k }
  have hG : G.le G' := by
    refine ⟨fun _ _ _ h => h, fun k b h => ?_, fun _ _ h => h⟩
    show (if k = l then some w.heap.size else G.blk k) = some b
    by_cases e : k = l
    · subst e; rw [hI.blkNone k hl] at h; cases h
    · rw [if_neg e]; exact h
  have hGl : G'.blk l = some w.heap.size := by show (if l = l then _ else _) = _; rw [if_pos rfl]
  have hin : ∀ j, G'.imm w.heap.size j = none := fun j => by
    show G.imm w.heap.size j = none
    cases h : G.imm w.heap.size j with
    | none => rfl
    | some y => exact absurd (hI.ibnd _ _ _ h) (Nat.lt_irrefl _)
  have hbel : Below W0.heap.size w (Lib.bytesWorld w e s) := ⟨rfl, rfl, rfl, by rw [Lib.bytesWorld_size]; omega, fun k hk => Lib.bytesWorld_at_old w e s k (Nat.lt_of_lt_of_le hk hI.below.size)⟩
  have hge := grownCap_ge w s.size 0 e
  refine ⟨G', grownCap w s.size 0 e, hge, Lib.run_convert_string_bytes w src dst e s hs hd he, .ms hGl hge, hG,
    hI.upd l _ w.heap.size hG hbel (fun b' _ hb' => Lib.bytesWorld_at_old w e s b' hb') (fun _ _ _ => rfl) (fun j y hy => ?_) hGl (fun k hk => by show (if k = l then _ else _) = _; rw [if_neg hk]) rfl ?_ ?_ (by simp) ?_ ⟨hI.below.size, by rw [Lib.bytesWorld_size]; omega⟩ (fun T h => h.fresh) (fun T _ h => lt_none hlt T h)⟩
  · rw [hin j] at hy; cases hy
  · intro k y _ _ _ hk
    exact absurd (hI.bnd k _ hk).2 (Nat.lt_irrefl _)
  · intro t f to z _ _ hs
    exact absurd (hI.sbnd t _ f to z hs).2 (Nat.lt_irrefl _)
  · intro _
    refine ⟨⟨Lib.bytesCells w e s, e, _, Lib.bytesWorld_at_new w e s, ?_⟩, fun j hj => ?_, hin⟩
    · unfold Lib.bytesCells
      rw [Array.toList_append, Array.toList_map, Array.toList_replicate]
      refine VL.append ⟨by simp, fun j x y hx hy => ?_⟩ ⟨by simp, fun j x y hx hy => ?_⟩
      · simp at hx hy
        obtain ⟨b, hb, rfl⟩ := hx
        obtain ⟨b', hb', rfl⟩ := hy
        rw [hb] at hb'; cases hb'
        exact ⟨.v rfl, rfl⟩
      · rw [List.getElem?_replicate] at hx hy
        split at hx
        · rename_i h; rw [if_pos h] at hy; cases hx; cases hy; exact ⟨.v rfl, rfl⟩
        · cases hx
    · simp [World.frozen?, Lib.bytesWorld_at_new]
      intro h
      simp [Lib.bytesCells] at h ⊢
      simp at hj
      exact absurd h (by omega)

theorem stringToBytes_imm (hI : Inv C W0 G S w) {src dst e : TypeId} {u : TypeDesc} (hs : P.underlying src = some u) (hd : P.underlying dst = some (.slice e)) (he : P.underlying e = some (.int .u8)) (s : ByteArray) {t : Nat} (ht : S t = none) (hlt : lt t = none) :
    ∃ G' c, (convert src dst (.string s)).run P w = .ok (.slice (some ⟨w.heap.size, 0, none⟩) s.size c) (Lib.bytesWorld w e s) ∧ V G' (.sl (.live t) 1 (s.data.toList.map fun b => [HV.int .u8 b.toNat])) (.slice (some ⟨w.heap.size, 0, none⟩) s.size c) ∧
      V G' (.sl .none 1 (s.data.toList.map fun b => [HV.int .u8 b.toNat])) (.slice (some ⟨w.heap.size, 0, none⟩) s.size c) ∧ G.le G' ∧
      Inv C W0 G' (S.set t .tok) (Lib.bytesWorld w e s) := by
  have hge := grownCap_ge w s.size 0 e
  have hnone : ∀ j, G.imm w.heap.size j = none := fun j => by
    cases h : G.imm w.heap.size j with
    | none => rfl
    | some y => exact absurd (hI.ibnd _ _ _ h) (Nat.lt_irrefl _)
  let G' : Ghost := { G with
    imm := fun b o => if b = w.heap.size then (if o < s.size then (byteCells s)[o]? else none) else G.imm b o
    slk := fun k => if k = t then some (w.heap.size, 0 + s.size * 1, 0 + grownCap w s.size 0 e * 1, 1) else G.slk k }
  have hG : G.le G' := by
    refine ⟨fun b o y h => ?_, fun _ _ h => h, fun k x h => ?_⟩
    · show (if b = w.heap.size then _ else _) = _
      by_cases e : b = w.heap.size
      · subst e; rw [hnone] at h; cases h
      · rw [if_neg e]; exact h
    · show (if k = t then _ else _) = _
      by_cases e : k = t
      · subst e; rw [hI.slkNone k ht] at h; cases h
      · rw [if_neg e]; exact h
  have himm : ∀ o, G'.imm w.heap.size o = if o < s.size then (byteCells s)[o]? else none := fun o => by
    show (if w.heap.size = w.heap.size then _ else _) = _
    rw [if_pos rfl]
  have hbel : Below W0.heap.size w (Lib.bytesWorld w e s) := ⟨rfl, rfl, rfl, by rw [Lib.bytesWorld_size]; omega, fun k hk => Lib.bytesWorld_at_old w e s k (Nat.lt_of_lt_of_le hk hI.below.size)⟩
  have hV : ∀ k, (k = .none ∨ k = .live t) → V G' (.sl k 1 (s.data.toList.map fun b => [HV.int .u8 b.toNat])) (.slice (some ⟨w.heap.size, 0, none⟩) s.size (grownCap w s.size 0 e)) := by
    intro k hk
    have hz : ∀ x ∈ (s.data.toList.map fun b => [HV.int .u8 b.toNat]), x.length = 1 := by intro x hx; obtain ⟨b, _, rfl⟩ := List.mem_map.1 hx; rfl
    have hfl : (s.data.toList.map fun b => [HV.int .u8 b.toNat]).flatten = s.data.toList.map fun b => HV.int .u8 b.toNat := by
      generalize s.data.toList = q
      induction q with
      | nil => rfl
      | cons n ns ih => simp [ih]
    have hvl : VL G' (s.data.toList.map fun b => [HV.int .u8 b.toNat]).flatten (byteCells s) := by
      rw [hfl]
      refine ⟨by simp [byteCells], fun j x y hx hy => ?_⟩
      simp [byteCells] at hx hy
      obtain ⟨b, hb, rfl⟩ := hx
      obtain ⟨b', hb', rfl⟩ := hy
      rw [hb] at hb'; cases hb'
      exact ⟨.v rfl, rfl⟩
    have hlen : (s.data.toList.map fun b => [HV.int .u8 b.toNat]).length = s.size := by simp
    have := V.ofChunks (G := G') (k := k) (b := w.heap.size) (o := 0) (z := 1) (n := s.size) (cap := grownCap w s.size 0 e) (by omega) hvl (by rw [flatten_length hz, hlen]; exact Nat.le_refl _) (fun j y hy hj => by
      rw [Nat.zero_add, himm, if_pos (by omega)]; exact hy) hge (by rcases hk with rfl | rfl <;> simp) (by
        intro t' ht'
        rcases hk with rfl | rfl
        · cases ht'
        · cases ht'
          show (if t = t then _ else _) = _
          rw [if_pos rfl])
    rw [← hlen, chunks_of 1 _ hz, hlen] at this
    exact this
  refine ⟨G', grownCap w s.size 0 e, Lib.run_convert_string_bytes w src dst e s hs hd he, hV _ (.inr rfl), hV _ (.inl rfl), hG, ?_⟩
  refine hI.addTok t w.heap.size (0 + s.size * 1) (0 + grownCap w s.size 0 e * 1) 1 hG hbel (fun b' _ hb' => Lib.bytesWorld_at_old w e s b' hb') (fun b o hb => by show (if b = w.heap.size then _ else _) = _; rw [if_neg hb]) ?_ ?_ ?_ rfl ht ?_ ?_ ?_ ⟨hI.below.size, by rw [Lib.bytesWorld_size]; omega⟩ (fun T h => h.fresh) (lt_none hlt)
  · intro o y hy
    rw [himm] at hy
    split at hy
    · rename_i ho
      rw [Lib.bytesWorld_cell w e s o ho]
      simp [byteCells] at hy
      obtain ⟨b, hb, rfl⟩ := hy
      have : s.data.toList[o]? = some b := by simpa using hb
      simp [List.getD, this]
      rfl
    · cases hy
  · show (if t = t then _ else _) = _
    rw [if_pos rfl]
  · intro k hk
    show (if k = t then _ else _) = _
    rw [if_neg hk]
  · intro k x _ _ hb
    exact absurd (hI.bnd k _ hb).2 (Nat.lt_irrefl _)
  · intro k f to z' _ hs
    exact absurd (hI.sbnd k _ f to z' hs).2 (Nat.lt_irrefl _)
  · have hsz : (Lib.bytesCells w e s).size = grownCap w s.size 0 e := by
      simp [Lib.bytesCells]
      have : s.data.size = s.size := rfl
      omega
    refine ⟨⟨Lib.bytesCells w e s, e, _, Lib.bytesWorld_at_new w e s, by omega⟩, fun j h1 h2 => ?_, fun j h1 h2 => ?_⟩
    · simp [World.frozen?, Lib.bytesWorld_at_new]
      omega
    · rw [himm, if_neg (by omega)]

end Go.HL
