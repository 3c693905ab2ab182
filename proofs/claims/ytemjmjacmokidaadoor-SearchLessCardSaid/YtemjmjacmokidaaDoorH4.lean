import Derived.Test.YtemjmjacmokidaaDoorH3
set_option linter.all false
/-! HL, part 4: how what holds between the two heaps is kept. -/
namespace Go.HL
open Go Go.RowKit

theorem HS.set_same (S : HS) (l : Nat) (o : HObj) : S.set l o l = some o := by simp [HS.set]
theorem HS.set_ne (S : HS) {l k : Nat} (o : HObj) (h : k ≠ l) : S.set l o k = S k := by simp [HS.set, h]

theorem cell?_same {w w' : World} {b : Nat} (h : w'.heap[b]? = w.heap[b]?) (o : Nat) : w'.cell? ⟨b, o, none⟩ = w.cell? ⟨b, o, none⟩ := by simp [World.cell?, h]
theorem frozen?_same {w w' : World} {b : Nat} (h : w'.heap[b]? = w.heap[b]?) (o : Nat) : w'.frozen? ⟨b, o, none⟩ = w.frozen? ⟨b, o, none⟩ := by simp [World.frozen?, h]

theorem RowAt.keep {G G' : Ghost} {w w' : World} {b : Nat} {cs : List HV} (h : RowAt G w b cs) (hg : G.le G') (hb : w'.heap[b]? = w.heap[b]?) (hi : ∀ o, G'.imm b o = none) : RowAt G' w' b cs := by
  obtain ⟨⟨c, T, fz, he, hv⟩, hu, _⟩ := h
  exact ⟨⟨c, T, fz, hb.trans he, hv.mono hg⟩, fun j hj => (frozen?_same hb j).trans (hu j hj), hi⟩
theorem MapAt.keep {G G' : Ghost} {w w' : World} {b : Nat} {es : List HEntry} {k : Nat} (h : MapAt G w b es k) (hg : G.le G') (hb : w'.heap[b]? = w.heap[b]?) : MapAt G' w' b es k := by
  obtain ⟨es', he, hl, hv⟩ := h.ex
  exact ⟨es', hb.trans he, hl, fun i e e' h1 h2 => ⟨(hv i e e' h1 h2).1, (hv i e e' h1 h2).2.1, (hv i e e' h1 h2).2.2.1.mono hg, (hv i e e' h1 h2).2.2.2⟩⟩
theorem SlackAt.keep {G G' : Ghost} {w w' : World} {b f to : Nat} (h : SlackAt G w b f to) (hb : w'.heap[b]? = w.heap[b]?) (hi : ∀ o, G'.imm b o = G.imm b o) : SlackAt G' w' b f to := by
  obtain ⟨⟨c, T, fz, he, ht⟩, hu, hf⟩ := h
  exact ⟨⟨c, T, fz, hb.trans he, ht⟩, fun j h1 h2 => (frozen?_same hb j).trans (hu j h1 h2), fun j h1 h2 => (hi j).trans (hf j h1 h2)⟩
theorem ObjAt.keep {G G' : Ghost} {w w' : World} {b : Nat} {x : HObj} (h : ObjAt G w b x) (hg : G.le G') (hb : w'.heap[b]? = w.heap[b]?) (hi : ∀ o, G'.imm b o = G.imm b o) : ObjAt G' w' b x := by
  cases x with
  | row cs => exact RowAt.keep h hg hb (fun o => (hi o).trans (h.free o))
  | map es k => exact MapAt.keep h hg hb
  | iter m s seen last => obtain ⟨bm, h1, h2⟩ := h; exact ⟨bm, hg.blk _ _ h1, hb.trans h2⟩
  | tok => trivial
  | dead => trivial

/-- An object dies: nothing else turns. -/
theorem Inv.dead {C : Cfg} {W0 : World} {G : Ghost} {S : HS} {w : World} (h : Inv C W0 G S w) (l : Nat) : Inv C W0 G (S.set l .dead) w := by
  have key : ∀ k x, S.set l .dead k = some x → (x = .dead) ∨ (k ≠ l ∧ S k = some x) := by
    intro k x hk
    by_cases e : k = l
    · subst e; rw [HS.set_same] at hk; left; injection hk with hk; exact hk.symm
    · rw [HS.set_ne _ _ e] at hk; exact .inr ⟨e, hk⟩
  have non : ∀ k, S.set l .dead k = none → S k = none := by
    intro k hk
    by_cases e : k = l
    · subst e; rw [HS.set_same] at hk; cases hk
    · rwa [HS.set_ne _ _ e] at hk
  refine ⟨h.below, ?_, h.imm, ?_, ?_, fun k hk => h.blkNone k (non k hk), fun k hk => h.slkNone k (non k hk), ?_, ?_, ?_, h.bnd, h.sbnd, h.ibnd, h.gl, h.btyp, ?_⟩
  · obtain ⟨N, hN⟩ := h.fin
    refine ⟨N + l + 1, fun k hk => ?_⟩
    rw [HS.set_ne _ _ (by omega)]
    exact hN k (by omega)
  · intro k x hk hx
    rcases key k x hk with rfl | ⟨_, hk⟩
    · simp [HObj.heavy] at hx
    · exact h.obj k x hk hx
  · intro t ht
    rcases key t _ ht with e | ⟨_, ht⟩
    · cases e
    · exact h.tok t ht
  · intro k k' x x' b hk hk' hx hx' hb hb'
    rcases key k x hk with rfl | ⟨_, hk⟩
    · simp [HObj.heavy] at hx
    · rcases key k' x' hk' with rfl | ⟨_, hk'⟩
      · simp [HObj.heavy] at hx'
      · exact h.inj k k' x x' b hk hk' hx hx' hb hb'
  · intro t t' b f to z f' to' z' ht ht' hs hs'
    rcases key t _ ht with e | ⟨_, ht⟩
    · cases e
    · rcases key t' _ ht' with e | ⟨_, ht'⟩
      · cases e
      · exact h.tinj t t' b f to z f' to' z' ht ht' hs hs'
  · intro t k x b f to z ht hk hx hs hb
    rcases key t _ ht with e | ⟨_, ht⟩
    · cases e
    · rcases key k x hk with rfl | ⟨_, hk⟩
      · simp [HObj.heavy] at hx
      · exact h.tb t k x b f to z ht hk hx hs hb
  · intro t b f to z T ht hs hT
    rcases key t _ ht with e | ⟨_, ht⟩
    · cases e
    · exact h.styp t b f to z T ht hs hT

/-- One object is laid or turned, in its own block. -/
theorem Inv.upd {C : Cfg} {W0 : World} {G G' : Ghost} {S : HS} {w w' : World} (h : Inv C W0 G S w) (l : Nat) (x' : HObj) (b : Nat)
    (hG : G.le G') (hbel : Below W0.heap.size w w')
    (hsame : ∀ b', b' ≠ b → b' < w.heap.size → w'.heap[b']? = w.heap[b']?)
    (himm : ∀ b' o, b' ≠ b → G'.imm b' o = G.imm b' o)
    (himmb : ∀ o y, G'.imm b o = some y → w'.cell? ⟨b, o, none⟩ = some y ∧ y.oneCell' = true)
    (hblk : G'.blk l = some b) (hblk' : ∀ k, k ≠ l → G'.blk k = G.blk k) (hslk : G'.slk = G.slk)
    (huniq : ∀ k x, k ≠ l → S k = some x → x.heavy = true → G.blk k ≠ some b)
    (htok : ∀ t f to z, t ≠ l → S t = some .tok → G.slk t ≠ some (b, f, to, z))
    (hnt : x' ≠ .tok) (hobj : x'.heavy = true → ObjAt G' w' b x') (hbd : W0.heap.size ≤ b ∧ b < w'.heap.size)
    (hty : ∀ T, Typed w b T → Typed w' b T) (hty' : ∀ T, G.blk l = none → lt l = some T → Typed w' b T) : Inv C W0 G' (S.set l x') w' := by
  have hsz := hbel.size
  have key : ∀ k x, S.set l x' k = some x → (k = l ∧ x = x') ∨ (k ≠ l ∧ S k = some x) := by
    intro k x hk
    by_cases e : k = l
    · subst e; rw [HS.set_same] at hk; left; injection hk with hk; exact ⟨rfl, hk.symm⟩
    · rw [HS.set_ne _ _ e] at hk; exact .inr ⟨e, hk⟩
  have non : ∀ k, S.set l x' k = none → k ≠ l ∧ S k = none := by
    intro k hk
    by_cases e : k = l
    · subst e; rw [HS.set_same] at hk; cases hk
    · rw [HS.set_ne _ _ e] at hk; exact ⟨e, hk⟩
  refine ⟨h.below.trans hbel, ?_, ?_, ?_, ?_, ?_, ?_, ?_, ?_, ?_, ?_, ?_, ?_, fun g => (h.gl g).mono hG, ?_, ?_⟩
  · obtain ⟨N, hN⟩ := h.fin
    refine ⟨N + l + 1, fun k hk => ?_⟩
    rw [HS.set_ne _ _ (by omega)]
    exact hN k (by omega)
  · intro b' o y hy
    by_cases e : b' = b
    · subst e; exact himmb o y hy
    · rw [himm b' o e] at hy
      have := h.imm b' o y hy
      rw [cell?_same (hsame b' e (h.ibnd b' o y hy))]
      exact this
  · intro k x hk hx
    rcases key k x hk with ⟨rfl, rfl⟩ | ⟨hne, hk⟩
    · exact ⟨b, hblk, hobj hx⟩
    · obtain ⟨b', hb', ho⟩ := h.obj k x hk hx
      have hbb : b' ≠ b := fun e => huniq k x hne hk hx (e ▸ hb')
      exact ⟨b', (hblk' k hne).trans hb', ho.keep hG (hsame b' hbb (h.bnd k b' hb').2) (fun o => himm b' o hbb)⟩
  · intro t ht
    rcases key t _ ht with ⟨_, e⟩ | ⟨hne, ht⟩
    · exact absurd e.symm hnt
    · obtain ⟨b', f, to, z, hs, hsl⟩ := h.tok t ht
      have hbb : b' ≠ b := fun e => htok t f to z hne ht (e ▸ hs)
      exact ⟨b', f, to, z, by rw [hslk]; exact hs, hsl.keep (hsame b' hbb (h.sbnd t b' f to z hs).2) (fun o => himm b' o hbb)⟩
  · intro k hk
    obtain ⟨hne, hk⟩ := non k hk
    exact (hblk' k hne).trans (h.blkNone k hk)
  · intro k hk
    rw [hslk]
    exact h.slkNone k (non k hk).2
  · intro k k' x y c hk hk' hx hy hc hc'
    rcases key k x hk with ⟨rfl, rfl⟩ | ⟨hne, hk2⟩
    · rcases key k' y hk' with ⟨rfl, rfl⟩ | ⟨hne', hk'⟩
      · rfl
      · rw [hblk] at hc; cases hc
        rw [hblk' k' hne'] at hc'
        exact absurd hc' (huniq k' y hne' hk' hy)
    · rcases key k' y hk' with ⟨rfl, rfl⟩ | ⟨hne', hk'⟩
      · rw [hblk] at hc'; cases hc'
        rw [hblk' k hne] at hc
        exact absurd hc (huniq k x hne hk2 hx)
      · rw [hblk' k hne] at hc; rw [hblk' k' hne'] at hc'
        exact h.inj k k' x y c hk2 hk' hx hy hc hc'
  · intro t t' c f to z f' to' z' ht ht' hs hs'
    rw [hslk] at hs hs'
    rcases key t _ ht with ⟨_, e⟩ | ⟨_, ht⟩
    · exact absurd e.symm hnt
    · rcases key t' _ ht' with ⟨_, e⟩ | ⟨_, ht'⟩
      · exact absurd e.symm hnt
      · exact h.tinj t t' c f to z f' to' z' ht ht' hs hs'
  · intro t k x c f to z ht hk hx hs hc
    rw [hslk] at hs
    rcases key t _ ht with ⟨_, e⟩ | ⟨hnet, ht2⟩
    · exact absurd e.symm hnt
    · rcases key k x hk with ⟨rfl, rfl⟩ | ⟨hne, hk⟩
      · rw [hblk] at hc; cases hc
        exact htok t f to z hnet ht2 hs
      · rw [hblk' k hne] at hc
        exact h.tb t k x c f to z ht2 hk hx hs hc
  · intro k c hc
    by_cases e : k = l
    · subst e; rw [hblk] at hc; cases hc; exact hbd
    · rw [hblk' k e] at hc
      exact ⟨(h.bnd k c hc).1, Nat.lt_of_lt_of_le (h.bnd k c hc).2 hsz⟩
  · intro t c f to z hs
    rw [hslk] at hs
    exact ⟨(h.sbnd t c f to z hs).1, Nat.lt_of_lt_of_le (h.sbnd t c f to z hs).2 hsz⟩
  · intro b' o y hy
    by_cases e : b' = b
    · subst e; exact hbd.2
    · rw [himm b' o e] at hy
      exact Nat.lt_of_lt_of_le (h.ibnd b' o y hy) hsz
  · intro k c T hc hT
    have old : G.blk k = some c → Typed w' c T := fun hc => by
      have h1 := h.btyp k c T hc hT
      by_cases e : c = b
      · subst e; exact hty T h1
      · exact h1.keep (hsame c e (h.bnd k c hc).2)
    by_cases e : k = l
    · subst e
      rw [hblk] at hc; cases hc
      cases hg : G.blk k with
      | none => exact hty' T hg hT
      | some c' =>
        have := hG.blk _ _ hg
        rw [hblk] at this; cases this
        exact old hg
    · rw [hblk' k e] at hc
      exact old hc
  · intro t c f to z T ht hs hT
    rw [hslk] at hs
    rcases key t _ ht with ⟨_, e⟩ | ⟨hne, ht⟩
    · exact absurd e.symm hnt
    · have hbb : c ≠ b := fun e => htok t f to z hne ht (e ▸ hs)
      exact (h.styp t c f to z T ht hs hT).keep (hsame c hbb (h.sbnd t c f to z hs).2)

/-- A token is laid, over a block that has no object and no other token. -/
theorem Inv.addTok {C : Cfg} {W0 : World} {G G' : Ghost} {S : HS} {w w' : World} (h : Inv C W0 G S w) (t : Nat) (b f to z : Nat)
    (hG : G.le G') (hbel : Below W0.heap.size w w')
    (hsame : ∀ b', b' ≠ b → b' < w.heap.size → w'.heap[b']? = w.heap[b']?)
    (himm : ∀ b' o, b' ≠ b → G'.imm b' o = G.imm b' o)
    (himmb : ∀ o y, G'.imm b o = some y → w'.cell? ⟨b, o, none⟩ = some y ∧ y.oneCell' = true)
    (hslk : G'.slk t = some (b, f, to, z)) (hslk' : ∀ k, k ≠ t → G'.slk k = G.slk k) (hblk : G'.blk = G.blk) (ht0 : S t = none)
    (huniq : ∀ k x, S k = some x → x.heavy = true → G.blk k ≠ some b)
    (htok : ∀ t f to z, S t = some .tok → G.slk t ≠ some (b, f, to, z))
    (hsl : SlackAt G' w' b f to) (hbd : W0.heap.size ≤ b ∧ b < w'.heap.size)
    (hty : ∀ T, Typed w b T → Typed w' b T) (hty' : ∀ T, lt t = some T → TypedTo w' b T f) : Inv C W0 G' (S.set t .tok) w' := by
  have hsz := hbel.size
  have key : ∀ k x, S.set t .tok k = some x → (k = t ∧ x = .tok) ∨ (k ≠ t ∧ S k = some x) := by
    intro k x hk
    by_cases e : k = t
    · subst e; rw [HS.set_same] at hk; left; injection hk with hk; exact ⟨rfl, hk.symm⟩
    · rw [HS.set_ne _ _ e] at hk; exact .inr ⟨e, hk⟩
  have non : ∀ k, S.set t .tok k = none → k ≠ t ∧ S k = none := by
    intro k hk
    by_cases e : k = t
    · subst e; rw [HS.set_same] at hk; cases hk
    · rw [HS.set_ne _ _ e] at hk; exact ⟨e, hk⟩
  have heavy : ∀ k x, S.set t .tok k = some x → x.heavy = true → S k = some x := by
    intro k x hk hx
    rcases key k x hk with ⟨rfl, rfl⟩ | ⟨_, hk⟩
    · simp [HObj.heavy] at hx
    · exact hk
  refine ⟨h.below.trans hbel, ?_, ?_, ?_, ?_, ?_, ?_, ?_, ?_, ?_, ?_, ?_, ?_, fun g => (h.gl g).mono hG, ?_, ?_⟩
  · obtain ⟨N, hN⟩ := h.fin
    refine ⟨N + t + 1, fun k hk => ?_⟩
    rw [HS.set_ne _ _ (by omega)]
    exact hN k (by omega)
  · intro b' o y hy
    by_cases e : b' = b
    · subst e; exact himmb o y hy
    · rw [himm b' o e] at hy
      have := h.imm b' o y hy
      rw [cell?_same (hsame b' e (h.ibnd b' o y hy))]
      exact this
  · intro k x hk hx
    have hk := heavy k x hk hx
    obtain ⟨b', hb', ho⟩ := h.obj k x hk hx
    have hbb : b' ≠ b := fun e => huniq k x hk hx (e ▸ hb')
    exact ⟨b', by rw [hblk]; exact hb', ho.keep hG (hsame b' hbb (h.bnd k b' hb').2) (fun o => himm b' o hbb)⟩
  · intro k hk
    rcases key k _ hk with ⟨rfl, _⟩ | ⟨hne, hk⟩
    · exact ⟨b, f, to, z, hslk, hsl⟩
    · obtain ⟨b', f', to', z', hs, hsl'⟩ := h.tok k hk
      have hbb : b' ≠ b := fun e => htok k f' to' z' hk (e ▸ hs)
      exact ⟨b', f', to', z', (hslk' k hne).trans hs, hsl'.keep (hsame b' hbb (h.sbnd k b' f' to' z' hs).2) (fun o => himm b' o hbb)⟩
  · intro k hk
    rw [hblk]; exact h.blkNone k (non k hk).2
  · intro k hk
    obtain ⟨hne, hk⟩ := non k hk
    exact (hslk' k hne).trans (h.slkNone k hk)
  · intro k k' x y c hk hk' hx hy hc hc'
    rw [hblk] at hc hc'
    exact h.inj k k' x y c (heavy k x hk hx) (heavy k' y hk' hy) hx hy hc hc'
  · intro k k' c f1 to1 z1 f' to' z' hk hk' hs hs'
    rcases key k _ hk with ⟨rfl, _⟩ | ⟨hne, hk2⟩
    · rcases key k' _ hk' with ⟨rfl, _⟩ | ⟨hne', hk'⟩
      · rfl
      · rw [hslk] at hs; cases hs
        rw [hslk' k' hne'] at hs'
        exact absurd hs' (htok k' _ _ _ hk')
    · rcases key k' _ hk' with ⟨rfl, _⟩ | ⟨hne', hk'⟩
      · rw [hslk] at hs'; cases hs'
        rw [hslk' k hne] at hs
        exact absurd hs (htok k _ _ _ hk2)
      · rw [hslk' k hne] at hs; rw [hslk' k' hne'] at hs'
        exact h.tinj k k' c f1 to1 z1 f' to' z' hk2 hk' hs hs'
  · intro k l x c f1 to1 z1 hk hl hx hs hc
    rw [hblk] at hc
    have hl2 := heavy l x hl hx
    rcases key k _ hk with ⟨rfl, _⟩ | ⟨hne, hk⟩
    · rw [hslk] at hs; cases hs
      exact huniq l x hl2 hx hc
    · rw [hslk' k hne] at hs
      exact h.tb k l x c f1 to1 z1 hk hl2 hx hs hc
  · intro k c hc
    rw [hblk] at hc
    exact ⟨(h.bnd k c hc).1, Nat.lt_of_lt_of_le (h.bnd k c hc).2 hsz⟩
  · intro k c f1 to1 z1 hs
    by_cases e : k = t
    · subst e; rw [hslk] at hs; cases hs; exact hbd
    · rw [hslk' k e] at hs
      exact ⟨(h.sbnd k c f1 to1 z1 hs).1, Nat.lt_of_lt_of_le (h.sbnd k c f1 to1 z1 hs).2 hsz⟩
  · intro b' o y hy
    by_cases e : b' = b
    · subst e; exact hbd.2
    · rw [himm b' o e] at hy
      exact Nat.lt_of_lt_of_le (h.ibnd b' o y hy) hsz
  · intro k c T hc hT
    rw [hblk] at hc
    have h1 := h.btyp k c T hc hT
    by_cases e : c = b
    · subst e; exact hty T h1
    · exact h1.keep (hsame c e (h.bnd k c hc).2)
  · intro k c f1 to1 z1 T hk hs hT
    rcases key k _ hk with ⟨rfl, _⟩ | ⟨hne, hk⟩
    · rw [hslk] at hs; cases hs
      exact hty' T hT
    · rw [hslk' k hne] at hs
      have hbb : c ≠ b := fun e => htok k f1 to1 z1 hk (e ▸ hs)
      exact (h.styp k c f1 to1 z1 T hk hs hT).keep (hsame c hbb (h.sbnd k c f1 to1 z1 hs).2)

theorem lt_none {l : Nat} {Q : TypeId → Prop} (h : lt l = none) : ∀ T, lt l = some T → Q T := fun T h' => by rw [h] at h'; cases h'
theorem lt_some {l : Nat} {T : TypeId} {Q : TypeId → Prop} (h : lt l = some T) (hq : Q T) : ∀ T, lt l = some T → Q T := fun T' h' => by rw [h] at h'; cases h'; exact hq
theorem Typed.fresh {w : World} {Q : Prop} {T : TypeId} (h : Typed w w.heap.size T) : Q := by
  obtain ⟨c, fz, h⟩ := h
  simp at h

/-- A draw. -/
theorem Inv.world {C : Cfg} {W0 : World} {G : Ghost} {S : HS} {w w' : World} (h : Inv C W0 G S w) (hh : w'.heap = w.heap) (ho : w'.os = w.os) (ht : w'.tape = w.tape) (hp : w'.output = w.output) : Inv C W0 G S w' := by
  have hs : ∀ b : Nat, w'.heap[b]? = w.heap[b]? := fun b => by rw [hh]
  refine ⟨h.below.trans ⟨ho, ht, hp, by rw [hh]; exact Nat.le_refl _, fun k _ => hs k⟩, h.fin, ?_, ?_, ?_, h.blkNone, h.slkNone, h.inj, h.tinj, h.tb, ?_, ?_, ?_, h.gl, fun l b T hb hT => (h.btyp l b T hb hT).keep (hs b), fun t b f to z T h1 h2 h3 => (h.styp t b f to z T h1 h2 h3).keep (hs b)⟩
  · intro b o y hy
    rw [cell?_same (hs b)]
    exact h.imm b o y hy
  · intro l x hl hx
    obtain ⟨b, hb, hob⟩ := h.obj l x hl hx
    exact ⟨b, hb, hob.keep (.refl G) (hs b) (fun _ => rfl)⟩
  · intro t ht
    obtain ⟨b, f, to, z, h1, h2⟩ := h.tok t ht
    exact ⟨b, f, to, z, h1, h2.keep (hs b) (fun _ => rfl)⟩
  · intro l b hb; rw [hh]; exact h.bnd l b hb
  · intro t b f to z hb; rw [hh]; exact h.sbnd t b f to z hb
  · intro b o y hb; rw [hh]; exact h.ibnd b o y hb

end Go.HL
