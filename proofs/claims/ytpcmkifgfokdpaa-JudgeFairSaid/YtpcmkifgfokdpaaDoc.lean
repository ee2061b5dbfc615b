/- The model: plain laws of the document's put: what it leaves of a rising row. -/
import Derived.Test.YtpcmkifgfokdpaaRbase
namespace Go.Proofs.Ytpcmkifgfokdpaa
open Go.RowKit Go.Maps Go.Sort Go.My Go.My.Model Go.Deep
def lessK (a b : ByteArray) : Bool := Op.bytesLess a.toList b.toList
def newE (k v : ByteArray) : Ent := ⟨k, v, 1⟩
def updE (v : ByteArray) (e : Ent) : Ent := ⟨e.key, v, e.ver + 1⟩
def gtB (e : Ent) (k : ByteArray) : Bool := !(lessK e.key k || decide (e.key = k))
def midP (k v : ByteArray) (s : List Ent × Bool) (e : Ent) : List Ent × Bool := if (!s.2 && gtB e k) = true then (s.1 ++ [newE k v], true) else s
def stepP (k v : ByteArray) (s : List Ent × Bool) (e : Ent) : List Ent × Bool :=
  if e.key = k then ((midP k v s e).1 ++ [updE v e], true) else ((midP k v s e).1 ++ [e], (midP k v s e).2)
def endP (k v : ByteArray) (s : List Ent × Bool) : List Ent := if s.2 = true then s.1 else s.1 ++ [newE k v]
def putR (k v : ByteArray) : List Ent → List Ent
  | [] => [newE k v]
  | e :: L => if e.key = k then updE v e :: L else if lessK e.key k = true then e :: putR k v L else newE k v :: e :: L
def Up (L : List Ent) : Prop := L.Pairwise fun a b => lessK a.key b.key = true

theorem lessK_lt {a b : ByteArray} : lessK a b = true ↔ a.toList < b.toList := by unfold lessK; rw [less_lt]; simp
theorem bytes_eq {a b : ByteArray} (h : a.toList = b.toList) : a = b := by
  rw [Lib.toList_data, Lib.toList_data] at h
  cases a with | mk a => cases b with | mk b =>
    cases a; cases b; simp at h; rw [h]
theorem lessK_irr (a : ByteArray) : lessK a a = false := by
  cases h : lessK a a with
  | false => rfl
  | true => exact absurd (lessK_lt.1 h) (List.lt_irrefl _)
theorem lessK_trans {a b c : ByteArray} (h : lessK a b = true) (h' : lessK b c = true) : lessK a c = true :=
  lessK_lt.2 (List.lt_trans (lessK_lt.1 h) (lessK_lt.1 h'))
theorem lessK_tri {a b : ByteArray} (h : lessK a b ≠ true) (h2 : a ≠ b) : lessK b a = true := by
  have h : ¬ (lessK a b = true) := h
  rw [lessK_lt] at h ⊢
  refine Classical.byContradiction fun hl => h2 (bytes_eq (List.le_antisymm (List.not_lt.1 hl) (List.not_lt.1 h)))

theorem fold_done {k v : ByteArray} : ∀ {L : List Ent} {out : List Ent}, (∀ e ∈ L, e.key ≠ k) → L.foldl (stepP k v) (out, true) = (out ++ L, true)
  | [], out, _ => by simp
  | e :: L, out, h => by
    have h1 := h e (by simp)
    rw [List.foldl_cons]
    have : stepP k v (out, true) e = (out ++ [e], true) := by simp [stepP, midP, h1]
    rw [this, fold_done fun e he => h e (by simp [he])]
    simp
theorem fold_put {k v : ByteArray} : ∀ {L : List Ent} {out : List Ent}, Up L → endP k v (L.foldl (stepP k v) (out, false)) = out ++ putR k v L
  | [], out, _ => by simp [endP, putR]
  | e :: L, out, h => by
    have h1 := List.pairwise_cons.1 h
    rw [List.foldl_cons]
    by_cases hk : e.key = k
    · have : stepP k v (out, false) e = (out ++ [updE v e], true) := by simp [stepP, midP, hk, gtB]
      rw [this, fold_done fun e' he he2 => ?_]
      · simp [endP, putR, hk]
      · have := h1.1 e' he
        rw [he2, hk, lessK_irr] at this
        cases this
    · by_cases hl : lessK e.key k = true
      · have : stepP k v (out, false) e = (out ++ [e], false) := by simp [stepP, midP, hk, gtB, hl]
        rw [this, fold_put h1.2]
        simp [putR, hk, hl]
      · have hl2 : lessK e.key k = false := by simpa using hl
        have : stepP k v (out, false) e = (out ++ [newE k v] ++ [e], true) := by simp [stepP, midP, hk, gtB, hl2]
        rw [this, fold_done fun e' he he2 => ?_]
        · simp [endP, putR, hk, hl2]
        · have h3 := h1.1 e' he
          rw [he2] at h3
          exact hl h3
theorem up_eq : ∀ {L L' : List Ent}, Up L → Up L' → (∀ x, x ∈ L ↔ x ∈ L') → L = L'
  | [], [], _, _, _ => rfl
  | [], b :: L', _, _, h => absurd ((h b).2 (by simp)) (by simp)
  | a :: L, [], _, _, h => absurd ((h a).1 (by simp)) (by simp)
  | a :: L, b :: L', h1, h2, h => by
    have g1 := List.pairwise_cons.1 h1
    have g2 := List.pairwise_cons.1 h2
    have hab : a = b := by
      rcases List.mem_cons.1 ((h a).1 (by simp)) with h3 | h3
      · exact h3
      · rcases List.mem_cons.1 ((h b).2 (by simp)) with h4 | h4
        · exact h4.symm
        · have := lessK_trans (g1.1 b h4) (g2.1 a h3)
          rw [lessK_irr] at this
          cases this
    subst hab
    rw [up_eq g1.2 g2.2 fun x => ?_]
    constructor
    · intro hx
      rcases List.mem_cons.1 ((h x).1 (by simp [hx])) with h3 | h3
      · subst h3
        have := g1.1 x hx
        rw [lessK_irr] at this
        cases this
      · exact h3
    · intro hx
      rcases List.mem_cons.1 ((h x).2 (by simp [hx])) with h3 | h3
      · subst h3
        have := g2.1 x hx
        rw [lessK_irr] at this
        cases this
      · exact h3
theorem put_mem {k v : ByteArray} : ∀ {L : List Ent}, Up L → ∀ x, x ∈ putR k v L ↔ (x = newE k v ∧ ∀ e ∈ L, e.key ≠ k) ∨ (∃ e ∈ L, e.key = k ∧ x = updE v e) ∨ (x ∈ L ∧ x.key ≠ k)
  | [], _, x => by simp [putR]
  | e :: L, h, x => by
    have h1 := List.pairwise_cons.1 h
    unfold putR
    by_cases hk : e.key = k
    · rw [if_pos hk]
      have hn : ∀ y ∈ L, y.key ≠ k := fun y hy h2 => by
        have := h1.1 y hy
        rw [h2, hk, lessK_irr] at this
        cases this
      constructor
      · intro hx
        rcases List.mem_cons.1 hx with rfl | hx
        · exact Or.inr (Or.inl ⟨e, by simp, hk, rfl⟩)
        · exact Or.inr (Or.inr ⟨by simp [hx], hn x hx⟩)
      · rintro (⟨_, h2⟩ | ⟨y, hy, hy2, rfl⟩ | ⟨hx, hx2⟩)
        · exact absurd hk (h2 e (by simp))
        · rcases List.mem_cons.1 hy with rfl | hy
          · simp
          · exact absurd hy2 (hn y hy)
        · rcases List.mem_cons.1 hx with rfl | hx
          · exact absurd hk hx2
          · simp [hx]
    · rw [if_neg hk]
      by_cases hl : lessK e.key k = true
      · rw [if_pos hl]
        rw [List.mem_cons, put_mem h1.2]
        constructor
        · rintro (rfl | ⟨h2, h3⟩ | ⟨y, hy, hy2⟩ | ⟨h2, h3⟩)
          · exact Or.inr (Or.inr ⟨by simp, hk⟩)
          · exact Or.inl ⟨h2, fun y hy => by rcases List.mem_cons.1 hy with rfl | hy; exact hk; exact h3 y hy⟩
          · exact Or.inr (Or.inl ⟨y, by simp [hy], hy2⟩)
          · exact Or.inr (Or.inr ⟨by simp [h2], h3⟩)
        · rintro (⟨h2, h3⟩ | ⟨y, hy, hy2, hy3⟩ | ⟨h2, h3⟩)
          · exact Or.inr (Or.inl ⟨h2, fun y hy => h3 y (by simp [hy])⟩)
          · rcases List.mem_cons.1 hy with rfl | hy
            · exact absurd hy2 hk
            · exact Or.inr (Or.inr (Or.inl ⟨y, hy, hy2, hy3⟩))
          · rcases List.mem_cons.1 h2 with rfl | h2
            · exact Or.inl rfl
            · exact Or.inr (Or.inr (Or.inr ⟨h2, h3⟩))
      · rw [if_neg hl]
        have hg := lessK_tri hl hk
        have hn : ∀ y ∈ e :: L, y.key ≠ k := fun y hy h2 => by
          rcases List.mem_cons.1 hy with rfl | hy
          · exact hk h2
          · have := lessK_trans hg (h1.1 y hy)
            rw [h2, lessK_irr] at this
            cases this
        constructor
        · intro hx
          rcases List.mem_cons.1 hx with rfl | hx
          · exact Or.inl ⟨rfl, hn⟩
          · exact Or.inr (Or.inr ⟨hx, hn x hx⟩)
        · rintro (⟨rfl, _⟩ | ⟨y, hy, hy2, _⟩ | ⟨hx, _⟩)
          · simp
          · exact absurd hy2 (hn y hy)
          · exact List.mem_cons_of_mem _ hx
theorem put_up {k v : ByteArray} : ∀ {L : List Ent}, Up L → Up (putR k v L)
  | [], _ => by simp [putR, Up]
  | e :: L, h => by
    have h1 := List.pairwise_cons.1 h
    unfold putR
    by_cases hk : e.key = k
    · rw [if_pos hk]
      exact List.pairwise_cons.2 ⟨fun y hy => h1.1 y hy, h1.2⟩
    · rw [if_neg hk]
      by_cases hl : lessK e.key k = true
      · rw [if_pos hl]
        refine List.pairwise_cons.2 ⟨fun y hy => ?_, put_up h1.2⟩
        rcases (put_mem h1.2 y).1 hy with ⟨rfl, _⟩ | ⟨z, hz, hz2, rfl⟩ | ⟨hy, _⟩
        · exact hl
        · exact h1.1 z hz
        · exact h1.1 y hy
      · rw [if_neg hl]
        have hg := lessK_tri hl hk
        refine List.pairwise_cons.2 ⟨fun y hy => ?_, h⟩
        rcases List.mem_cons.1 hy with rfl | hy
        · exact hg
        · exact lessK_trans hg (h1.1 y hy)
theorem run_up (ws : List Wri) : Up (runL (stateOf ws)) := by
  have hp := sortS_lt (good_state ws).nodup
  rw [runL_eq]
  exact List.Pairwise.map _ (fun _ _ h => h) hp
theorem put_run (ws : List Wri) (x : Wri) : putR x.1 x.2 (runL (stateOf ws)) = runL (stateOf (ws ++ [x])) := by
  refine up_eq (put_up (run_up ws)) (run_up _) fun y => ?_
  rw [put_mem (run_up ws), run_mem (ws := ws ++ [x]), countK_snoc]
  constructor
  · rintro (⟨rfl, hn⟩ | ⟨z, hz, hz2, rfl⟩ | ⟨hy, hy2⟩)
    · have h0 : countK ws x.1 = 0 := Classical.byContradiction fun h => hn (entOf ws x.1) (run_mem.2 ⟨h, rfl⟩) rfl
      refine ⟨by simp [newE], ?_⟩
      show (⟨x.1, x.2, 1⟩ : Ent) = ⟨x.1, lastV (ws ++ [x]) x.1, (countK (ws ++ [x]) x.1 : Int)⟩
      rw [lastV_snoc, countK_snoc, h0]
      simp
    · obtain ⟨a, b⟩ := run_mem.1 hz
      have e : (updE x.2 z).key = z.key := rfl
      rw [e, hz2]
      refine ⟨by simp, ?_⟩
      rw [b, hz2]
      show (⟨x.1, x.2, (countK ws x.1 : Int) + 1⟩ : Ent) = ⟨x.1, lastV (ws ++ [x]) x.1, (countK (ws ++ [x]) x.1 : Int)⟩
      rw [lastV_snoc, countK_snoc]
      simp
    · obtain ⟨a, b⟩ := run_mem.1 hy
      have hx : ¬ x.1 = y.key := fun h => hy2 h.symm
      rw [if_neg hx]
      refine ⟨by omega, ?_⟩
      refine b.trans ?_
      unfold entOf
      rw [lastV_snoc, countK_snoc, if_neg hx, if_neg hx]
      rfl
  · rintro ⟨a, b⟩
    by_cases hx : x.1 = y.key
    · by_cases h0 : countK ws x.1 = 0
      · refine Or.inl ⟨?_, fun z hz hz2 => ?_⟩
        · refine b.trans ?_
          unfold entOf newE
          rw [lastV_snoc, countK_snoc, if_pos hx, if_pos hx, ← hx, h0]
          rfl
        · have := (run_mem.1 hz).1
          rw [hz2] at this
          exact this h0
      · refine Or.inr (Or.inl ⟨entOf ws x.1, run_mem.2 ⟨h0, rfl⟩, rfl, ?_⟩)
        refine b.trans ?_
        unfold entOf updE
        rw [lastV_snoc, countK_snoc, if_pos hx, if_pos hx, ← hx]
        simp
    · rw [if_neg hx] at a
      refine Or.inr (Or.inr ⟨run_mem.2 ⟨by omega, ?_⟩, fun h => hx h.symm⟩)
      refine b.trans ?_
      unfold entOf
      rw [lastV_snoc, countK_snoc, if_neg hx, if_neg hx]
      rfl
end Go.Proofs.Ytpcmkifgfokdpaa
