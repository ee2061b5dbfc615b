/- The document's move, as plain data: cut at both ends, then those of the range have the next epoch. -/
import Derived.Test.YtemgcliihbjjiaaDoorRplain
namespace Go.Proofs.YtemgcliihbjjiaaDoor
open Go.RowKit Go.My

def nextB (k : ByteArray) : List Pc → Bool
  | [] => true
  | y :: _ => lessK k y.fr
def cutL (k : ByteArray) : List Pc → List Pc
  | [] => []
  | x :: r => if lessK x.fr k && nextB k r then x :: ⟨k, x.sh, x.ep⟩ :: cutL k r else x :: cutL k r
theorem cut_skip (k : ByteArray) (y : Pc) (B : List Pc) (hy : lessK k y.fr = false) : ∀ A : List Pc, (∀ x, x ∈ A → lessK k x.fr = false) → cutL k (A ++ y :: B) = A ++ cutL k (y :: B)
  | [], _ => rfl
  | x :: A, h => by
    have ih := cut_skip k y B hy A (fun z hz => h z (by simp [hz]))
    have hn : nextB k (A ++ y :: B) = false := by
      cases A with
      | nil => exact hy
      | cons a r => exact h a (by simp)
    rw [List.cons_append, cutL, hn, ih]
    simp
theorem cut_ge (k : ByteArray) : ∀ B : List Pc, (∀ x, x ∈ B → lessK x.fr k = false) → cutL k B = B
  | [], _ => rfl
  | x :: B, h => by rw [cutL, h x (by simp), cut_ge k B (fun z hz => h z (by simp [hz]))]; rfl
def bumpR (f t : ByteArray) (s : Int) (x : Pc) : Pc := if !lessK x.fr f && (decide (t.size = 0) || lessK x.fr t) then bump s x else x
def cut2 (l : List Pc) (f t : ByteArray) : List Pc := if t.size = 0 then cutL f l else cutL t (cutL f l)
theorem any_same {p q : Pc → Bool} : ∀ (l : List Pc), (∀ x, x ∈ l → p x = q x) → l.any p = l.any q
  | [], _ => rfl
  | x :: r, h => by rw [List.any_cons, List.any_cons, h x (by simp), any_same r (fun y hy => h y (by simp [hy]))]
section
variable {l : List Pc} {f t : ByteArray} {P : List Pc} {o : Pc} {os S : List Pc}
theorem Parts.cut1 (p : Parts l f t P o os S) (hft : t.size ≠ 0 → lessK f t = true) : cutL f l = aheadP P o f ++ (⟨f, o.sh, o.ep⟩ :: os) ++ S := by
  have hS : ∀ x, x ∈ S → lessK f x.fr = true := fun x hx => by
    by_cases h0 : t.size = 0
    · rw [p.hE h0] at hx; simp at hx
    · exact lessK_lt_le (hft h0) (p.hS h0 x hx)
  have hge : ∀ x, x ∈ os ++ S → lessK x.fr f = false := fun x hx => by
    rcases List.mem_append.1 hx with hx | hx
    · exact lessK_asymm (p.hos x hx)
    · exact lessK_asymm (hS x hx)
  have hn : nextB f (os ++ S) = true := by
    cases os with
    | nil =>
      cases S with
      | nil => rfl
      | cons x r => exact hS x (by simp)
    | cons x r => exact p.hos x (by simp)
  rw [p.eq, List.append_assoc, List.cons_append, cut_skip f o (os ++ S) p.ho P (fun x hx => by
    have := p.hp x hx
    exact lessK_asymm (lessK_lt_le this p.ho)), cutL, hn, cut_ge f _ hge]
  unfold aheadP
  cases hl : lessK o.fr f with
  | true => simp
  | false =>
    have e : o.fr = f := lessK_anti hl p.ho
    simp
    rw [← e]
theorem lastP_snoc (A : List Pc) (o : Pc) (os : List Pc) : ∃ B, A ++ o :: os = B ++ [lastP o os] ∧ ∀ x, x ∈ B → x ∈ A ++ o :: os := by
  rcases List.eq_nil_or_concat os with rfl | ⟨b, c, rfl⟩
  · exact ⟨A, rfl, fun x hx => by simp [hx]⟩
  · refine ⟨A ++ o :: b, by unfold lastP; simp, fun x hx => ?_⟩
    rcases List.mem_append.1 hx with hx | hx
    · simp [hx]
    · rcases List.mem_cons.1 hx with rfl | hx
      · simp
      · simp [hx]
theorem Parts.cutt (p : Parts l f t P o os S) (hft : t.size ≠ 0 → lessK f t = true) : cut2 l f t = aheadP P o f ++ (⟨f, o.sh, o.ep⟩ :: os) ++ behindP t o os S := by
  unfold cut2
  rw [p.cut1 hft]
  by_cases h0 : t.size = 0
  · rw [if_pos h0]
    unfold behindP insS
    simp [h0]
  · rw [if_neg h0]
    have hall : ∀ x, x ∈ aheadP P o f ++ (⟨f, o.sh, o.ep⟩ :: os) → lessK x.fr t = true := by
      intro x hx
      have ho := p.ht h0 o (by simp)
      rcases List.mem_append.1 hx with hx | hx
      · unfold aheadP at hx
        split at hx
        · rcases List.mem_append.1 hx with hx | hx
          · exact lessK_trans (p.hp x hx) ho
          · simp at hx; subst hx; exact ho
        · exact lessK_trans (p.hp x hx) ho
      · rcases List.mem_cons.1 hx with rfl | hx
        · exact hft h0
        · exact p.ht h0 x (by simp [hx])
    obtain ⟨B, hB, hm⟩ := lastP_snoc (aheadP P o f) ⟨f, o.sh, o.ep⟩ os
    rw [hB] at hall ⊢
    have hz := hall (lastP ⟨f, o.sh, o.ep⟩ os) (by simp)
    rw [List.append_assoc, List.singleton_append, cut_skip t _ S (lessK_asymm hz) B (fun x hx => lessK_asymm (hall x (by simp [hx]))), cutL, hz, cut_ge t S (p.hS h0)]
    have hi : insS t S = nextB t S := by
      unfold insS nextB
      cases S <;> simp [h0]
    have hl : (lastP ⟨f, o.sh, o.ep⟩ os).sh = (lastP o os).sh ∧ (lastP ⟨f, o.sh, o.ep⟩ os).ep = (lastP o os).ep := by
      unfold lastP
      rcases List.eq_nil_or_concat os with rfl | ⟨b, c, rfl⟩
      · exact ⟨rfl, rfl⟩
      · simp
    unfold behindP
    rw [hi, ← hl.1, ← hl.2]
    cases nextB t S <;> simp
theorem Parts.doc (p : Parts l f t P o os S) (hft : t.size ≠ 0 → lessK f t = true) (s : Int) : (cut2 l f t).map (bumpR f t s) = movL l f t s := by
  rw [p.cutt hft, p.mov]
  unfold movP
  rw [List.map_append, List.map_append]
  have e1 : (aheadP P o f).map (bumpR f t s) = aheadP P o f := by
    refine (List.map_congr_left (fun x hx => ?_)).trans (List.map_id _)
    have hl : lessK x.fr f = true := by
      unfold aheadP at hx
      split at hx
      · rename_i hl
        rcases List.mem_append.1 hx with hx | hx
        · exact lessK_trans (p.hp x hx) hl
        · simp at hx; subst hx; exact hl
      · exact lessK_lt_le (p.hp x hx) p.ho
    unfold bumpR
    rw [hl]
    rfl
  have e2 : ((⟨f, o.sh, o.ep⟩ : Pc) :: os).map (bumpR f t s) = bump s ⟨f, o.sh, o.ep⟩ :: os.map (bump s) := by
    rw [← List.map_cons]
    refine List.map_congr_left (fun x hx => ?_)
    have h1 : lessK x.fr f = false ∧ (t.size ≠ 0 → lessK x.fr t = true) := by
      rcases List.mem_cons.1 hx with rfl | hx
      · exact ⟨lessK_irr _, hft⟩
      · exact ⟨lessK_asymm (p.hos x hx), fun h0 => p.ht h0 x (by simp [hx])⟩
    unfold bumpR
    rw [h1.1]
    by_cases h0 : t.size = 0
    · simp [h0]
    · simp [h0, h1.2 h0]
  have e3 : (behindP t o os S).map (bumpR f t s) = behindP t o os S := by
    refine (List.map_congr_left (fun x hx => ?_)).trans (List.map_id _)
    unfold bumpR
    unfold behindP at hx
    by_cases h0 : t.size = 0
    · rw [p.hE h0] at hx
      unfold insS at hx
      simp [h0] at hx
    · have hl : lessK x.fr t = false := by
        split at hx
        · rcases List.mem_cons.1 hx with rfl | hx
          · exact lessK_irr _
          · exact p.hS h0 x hx
        · exact p.hS h0 x hx
      rw [hl]
      simp [h0]
  rw [e1, e2, e3]
theorem Parts.full (p : Parts l f t P o os S) (h : Ok l) (hft : t.size ≠ 0 → lessK f t = true) :
    ((cut2 l f t).any fun x => !lessK x.fr f && (decide (t.size = 0) || lessK x.fr t) && decide (1099511627776 ≤ x.ep)) = fullB (o :: os) := by
  have hle : ∀ x, x ∈ o :: os → x.ep ≤ 1099511627776 := fun x hx => by
    have := h.fit x (by rw [p.eq]; rcases List.mem_cons.1 hx with rfl | hx <;> simp [*])
    unfold fitB at this
    simp only [Bool.and_eq_true, decide_eq_true_eq] at this
    exact this.2
  rw [p.cutt hft]
  unfold fullB
  rw [List.any_append, List.any_append]
  have e1 : ((aheadP P o f).any fun x => !lessK x.fr f && (decide (t.size = 0) || lessK x.fr t) && decide (1099511627776 ≤ x.ep)) = false := by
    rw [List.any_eq_false]
    intro x hx
    have hl : lessK x.fr f = true := by
      unfold aheadP at hx
      split at hx
      · rename_i hl
        rcases List.mem_append.1 hx with hx | hx
        · exact lessK_trans (p.hp x hx) hl
        · simp at hx; subst hx; exact hl
      · exact lessK_lt_le (p.hp x hx) p.ho
    simp [hl]
  have e3 : ((behindP t o os S).any fun x => !lessK x.fr f && (decide (t.size = 0) || lessK x.fr t) && decide (1099511627776 ≤ x.ep)) = false := by
    rw [List.any_eq_false]
    intro x hx
    unfold behindP at hx
    by_cases h0 : t.size = 0
    · rw [p.hE h0] at hx
      unfold insS at hx
      simp [h0] at hx
    · have hl : lessK x.fr t = false := by
        split at hx
        · rcases List.mem_cons.1 hx with rfl | hx
          · exact lessK_irr _
          · exact p.hS h0 x hx
        · exact p.hS h0 x hx
      simp [h0, hl]
  rw [e1, e3, Bool.false_or, Bool.or_false, List.any_cons, List.any_cons]
  have g1 : (!lessK f f && (decide (t.size = 0) || lessK f t)) = true := by
    rw [lessK_irr]
    by_cases h0 : t.size = 0
    · simp [h0]
    · simp [h0, hft h0]
  have g2 : decide (1099511627776 ≤ o.ep) = decide (o.ep = 1099511627776) := by
    have := hle o (by simp)
    simp; omega
  show (!lessK f f && (decide (t.size = 0) || lessK f t) && decide (1099511627776 ≤ o.ep) || _) = _
  rw [g1, g2, Bool.true_and]
  congr 1
  refine any_same os ?_
  intro x hx
  have h1 : lessK x.fr f = false ∧ (t.size ≠ 0 → lessK x.fr t = true) := ⟨lessK_asymm (p.hos x hx), fun h0 => p.ht h0 x (by simp [hx])⟩
  have := hle x (by simp [hx])
  have g3 : decide (1099511627776 ≤ x.ep) = decide (x.ep = 1099511627776) := by simp; omega
  rw [h1.1, g3]
  by_cases h0 : t.size = 0
  · simp [h0]
  · simp [h0, h1.2 h0]
end
end Go.Proofs.YtemgcliihbjjiaaDoor
