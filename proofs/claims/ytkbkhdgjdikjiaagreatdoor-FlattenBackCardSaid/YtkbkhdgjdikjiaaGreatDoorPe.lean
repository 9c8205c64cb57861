/- Plain law: what is told of two graphs is the same just if their normal forms are. Own text of the prover; nothing is assumed. -/
import Derived.Test.YtkbkhdgjdikjiaaGreatDoorPd
import Derived.Test.YtkbkhdgjdikjiaaGreatDoorCn
set_option maxRecDepth 100000
namespace Go.SV

theorem isN_open {g : List Nd} {names : List (List UInt8)} {nd : Nd} {met : Nat} (hr : rightN g nd = true) : isN (openE names nd met) = true ∧ isN (closeE nd) = (nd.kind == 0 && isN (closeE nd)) ∧ (openE names nd met).kind ≠ 7 ∧ (nd.kind = 0 ↔ (openE names nd met).kind = 6) := by
  rcases kind_of (nd := nd) (by rcases rightN_kinds hr with h | h | h; exact .inl h.1; exact .inr (.inl h.1); exact .inr (.inr h.1)) with h | h | h
  · simp [isN, isNode, openE, nameEv, h.1, h.2]
  · simp [isN, isNode, openE, closeE, nameEv, h.1, h.2]
  · simp [isN, isNode, openE, closeE, nameEv, h.1, h.2]

/-- Told nodes, all of them such as may be, aliases of such as have names. -/
inductive Wq (g : List Nd) : Nat → List Int → Nat → List Ev → Prop
  | nil (met : Nat) : Wq g met [] met []
  | alias {met m : Nat} {a : Int} {ks : List Int} {s : List Ev} : 0 ≤ a → a < met → isNamed g a.toNat = true → Wq g met ks m s → Wq g met (a :: ks) m (aliasE (namesG g) a :: s)
  | leaf {met m : Nat} {nd : Nd} {ks : List Int} {s : List Ev} : g[met]? = some nd → nd.kind = 0 → nd.kids = [] → rightN g nd = true → Wq g (met + 1) ks m s → Wq g met ((met : Int) :: ks) m (openE (namesG g) nd met :: s)
  | node {met m1 m : Nat} {nd : Nd} {ks : List Int} {s1 s : List Ev} : g[met]? = some nd → nd.kind ≠ 0 → rightN g nd = true → Wq g (met + 1) nd.kids m1 s1 → Wq g m1 ks m s →
      Wq g met ((met : Int) :: ks) m (openE (namesG g) nd met :: (s1 ++ closeE nd :: s))

theorem wk_al {g : List Nd} {met m h : Nat} {ks : List Int} {s : List Ev} (hkd : ∀ n ∈ g, (n.kind = 0 ∧ n.kids = []) ∨ n.kind = 1 ∨ n.kind = 2) (w : Wk g (namesG g) met ks m s h) :
    ∃ l, Al g met ks m l ∧ ((∀ a ∈ l, isNamed g a.toNat = true) → (∀ n ∈ g, rightN g n = true) → Wq g met ks m s) := by
  induction w with
  | nil => exact ⟨[], .nil _, fun _ _ => .nil _⟩
  | alias h0 h1 _ ih =>
    obtain ⟨l, a, b⟩ := ih
    exact ⟨_, .alias h0 h1 a, fun p q => .alias h0 h1 (p _ (by simp)) (b (fun x hx => p x (by simp [hx])) q)⟩
  | @leaf met m h nd ks s hn hk _ ih =>
    obtain ⟨l, a, b⟩ := ih
    have hm := List.mem_of_getElem? hn
    have hkk : nd.kids = [] := by rcases hkd _ hm with h | h | h; exact h.2; omega; omega
    exact ⟨_, .leaf hn hkk a, fun p q => .leaf hn hk hkk (q _ hm) (b p q)⟩
  | node hn hk _ _ ih1 ih2 =>
    obtain ⟨l1, a1, b1⟩ := ih1
    obtain ⟨l, a, b⟩ := ih2
    have hm := List.mem_of_getElem? hn
    exact ⟨_, .node hn a1 a, fun p q => .node hn hk (q _ hm) (b1 (fun x hx => p x (by simp [hx])) q) (b (fun x hx => p x (by simp [hx])) q)⟩

theorem right_nodes {g : List Nd} (hr : rightG g = true) : ∀ n ∈ g, rightN g n = true := by
  simp only [rightG, Bool.and_eq_true, Bool.not_eq_true'] at hr
  have h2 := hr.2.1
  rw [List.any_eq_false] at h2
  intro n hn
  simpa using h2 n hn

theorem tell_wq {g : List Nd} (hr : rightG g = true) : Wq (normal g) 0 [0] (normal g).length (tellG g).out ∧ ∃ l, Al (normal g) 0 [0] (normal g).length l := by
  obtain ⟨h, w, _⟩ := tell_wk hr
  obtain ⟨l, a, b⟩ := wk_al (normal_kinds hr) w
  refine ⟨b (fun x hx => ?_) (right_nodes (normal_right hr)), l, a⟩
  have := al_in a x hx
  have h1 := (al_named a x.toNat (by omega)).1 (by rw [show ((x.toNat : Nat) : Int) = x by omega]; exact hx)
  exact h1

theorem wq_le {g : List Nd} {met m : Nat} {ks : List Int} {s : List Ev} (w : Wq g met ks m s) : met ≤ m := by
  induction w with
  | nil => exact Nat.le_refl _
  | alias _ _ _ _ ih => exact ih
  | leaf _ _ _ _ _ ih => omega
  | node _ _ _ _ _ ih1 ih2 => omega

end Go.SV
