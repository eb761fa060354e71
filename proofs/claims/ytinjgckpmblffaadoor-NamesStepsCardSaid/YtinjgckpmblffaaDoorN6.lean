/- The plain law of the texts of events and questions. No walk here. -/
import Derived.Test.YtinjgckpmblffaaDoorN5
namespace Go.Proofs.YtinjgckpmblffaaDoor.Vm
open Go.RowKit Go.Shelf
set_option linter.unusedSimpArgs false
set_option linter.unusedVariables false
set_option maxRecDepth 100000
/-! ### Splitting and joining -/
theorem splitC_app (c : UInt8) : ∀ (x r : List UInt8), c ∉ x → splitC c (x ++ c :: r) = x :: splitC c r
  | [], r, _ => by simp [splitC]
  | y :: x, r, h => by
    have hy : ¬ y = c := fun e => h (by simp [e])
    have := splitC_app c x r (fun hm => h (by simp [hm]))
    simp only [List.cons_append, splitC, if_neg hy, this]
theorem splitC_no (c : UInt8) : ∀ (x : List UInt8), c ∉ x → splitC c x = [x]
  | [], _ => rfl
  | y :: x, h => by
    have hy : ¬ y = c := fun e => h (by simp [e])
    have := splitC_no c x (fun hm => h (by simp [hm]))
    simp only [splitC, if_neg hy, this]
def joinC (c : UInt8) : List (List UInt8) → List UInt8
  | [] => []
  | [x] => x
  | x :: y :: r => x ++ c :: joinC c (y :: r)
theorem joinC_cons (c : UInt8) (x : List UInt8) {r : List (List UInt8)} (h : r ≠ []) : joinC c (x :: r) = x ++ c :: joinC c r := by
  cases r with
  | nil => exact absurd rfl h
  | cons y r => rfl
theorem join_split (c : UInt8) : ∀ l, joinC c (splitC c l) = l
  | [] => rfl
  | x :: r => by
    have ih := join_split c r
    unfold splitC
    split
    · rename_i h
      subst h
      rw [joinC_cons _ _ (splitC_ne _ _), ih]; rfl
    · split
      · rename_i a t e
        rw [e] at ih
        cases t with
        | nil => rw [← ih]; rfl
        | cons b t => rw [← ih]; rfl
      · rename_i e; exact absurd e (splitC_ne c r)
theorem splitC_join (c : UInt8) : ∀ (W : List (List UInt8)), W ≠ [] → (∀ w ∈ W, c ∉ w) → splitC c (joinC c W) = W
  | [], h, _ => absurd rfl h
  | [x], _, h => splitC_no c x (h x (by simp))
  | x :: y :: r, _, h => by
    rw [joinC_cons _ _ (by simp), splitC_app c _ _ (h x (by simp)), splitC_join c (y :: r) (by simp) (fun w hw => h w (by simp [hw]))]
theorem join_eq' (c : UInt8) : ∀ W : List (List UInt8), Lib.join W [c] = joinC c W
  | [] => rfl
  | [x] => by rw [Lib.join_one]; rfl
  | x :: y :: r => by
    rw [joinC_cons _ _ (by simp), ← join_eq' c (y :: r)]
    unfold Lib.join
    rw [List.intercalate, List.intercalate, List.intersperse_cons_cons]
    simp
/-! ### Numbers' texts -/
theorem digs_mem : ∀ (f u : Nat), u ≤ f → ∀ c ∈ Lib.decDigits u, isD c = true
  | 0, u, h, c, hc => by
    obtain rfl : u = 0 := by omega
    rw [Lib.decDigits, dif_pos (by omega)] at hc
    obtain rfl := List.mem_singleton.1 hc
    decide
  | f + 1, u, h, c, hc => by
    rw [Lib.decDigits] at hc
    split at hc
    · rename_i h1
      obtain rfl := List.mem_singleton.1 hc
      have := dig_nat u
      rw [Nat.mod_eq_of_lt h1] at this
      unfold isD
      rw [this]
      simp only [Bool.and_eq_true, decide_eq_true_eq]
      omega
    · rcases List.mem_append.1 hc with hc | hc
      · exact digs_mem f (u / 10) (by omega) c hc
      · obtain rfl := List.mem_singleton.1 hc
        unfold isD
        rw [dig_nat]
        simp only [Bool.and_eq_true, decide_eq_true_eq]
        omega
theorem itoa_mem (n : Int) : ∀ c ∈ Lib.itoa n, c = 45 ∨ isD c = true := fun c hc => by
  unfold Lib.itoa at hc
  split at hc
  · rcases List.mem_cons.1 hc with h | h
    · exact .inl h
    · exact .inr (digs_mem _ _ (Nat.le_refl _) c h)
  · exact .inr (digs_mem _ _ (Nat.le_refl _) c hc)
theorem itoa_no {n : Int} {c : UInt8} (h : c ≠ 45) (hd : isD c = false) : c ∉ Lib.itoa n := fun hm => by
  rcases itoa_mem n c hm with e | e
  · exact h e
  · rw [hd] at e; cases e
theorem parse_app : ∀ (l m : List UInt8) (a : Nat), Lib.parseUint10 a (l ++ m) = match Lib.parseUint10 a l with | .ok v => Lib.parseUint10 v m | e => e
  | [], m, a => rfl
  | c :: r, m, a => by
    simp only [List.cons_append, Lib.parseUint10]
    split
    · split
      · rfl
      · split
        · rfl
        · exact parse_app r m _
    · rfl
theorem parse_digs : ∀ (f u : Nat), u ≤ f → u ≤ 4294967295 → Lib.parseUint10 0 (Lib.decDigits u) = .ok u
  | f, u, h, hu => by
    rw [Lib.decDigits]
    split
    · rename_i h1
      have := dig_nat u
      rw [Nat.mod_eq_of_lt h1] at this
      have e : (UInt8.ofNat (48 + u)).toNat = 48 + u := by omega
      simp only [Lib.parseUint10, e]
      rw [if_pos (by omega), if_neg (by omega), if_neg (by omega)]
      congr 1; omega
    · match f, h with
      | 0, h => omega
      | f + 1, h =>
        rw [parse_app, parse_digs f (u / 10) (by omega) (by omega)]
        have := dig_nat u
        have e : (UInt8.ofNat (48 + u % 10)).toNat = 48 + u % 10 := by omega
        simp only [Lib.parseUint10, e]
        rw [if_pos (by omega), if_neg (by omega), if_neg (by omega)]
        congr 1; omega
theorem digs_val : ∀ (f u : Nat), u ≤ f → horner 0 (Lib.decDigits u) = u
  | f, u, h => by
    rw [Lib.decDigits]
    split
    · rename_i h1
      have := dig_nat u
      rw [Nat.mod_eq_of_lt h1] at this
      show 10 * 0 + ((UInt8.ofNat (48 + u)).toNat : Int) - 48 = u
      omega
    · match f, h with
      | 0, h => omega
      | f + 1, h =>
        rw [horner_app, digs_val f (u / 10) (by omega)]
        show 10 * ((u / 10 : Nat) : Int) + ((UInt8.ofNat (48 + u % 10)).toNat : Int) - 48 = u
        rw [dig_nat]; omega
theorem digs_inj {u v : Nat} (h : Lib.decDigits u = Lib.decDigits v) : u = v := by
  have h1 := digs_val u u (Nat.le_refl _)
  have h2 := digs_val v v (Nat.le_refl _)
  rw [h] at h1
  omega
theorem itoa_inj {m n : Int} (h : Lib.itoa m = Lib.itoa n) : m = n := by
  have neg : ∀ (u v : Nat), ¬ (45 :: Lib.decDigits u) = Lib.decDigits v := fun u v e => by
    have := digs_mem _ v (Nat.le_refl _) 45 (by rw [← e]; simp)
    exact absurd this (by decide)
  unfold Lib.itoa at h
  split at h
  · split at h
    · have := digs_inj (List.cons.inj h).2
      omega
    · exact absurd h (neg _ _)
  · split at h
    · exact absurd h.symm (neg _ _)
    · have := digs_inj h
      omega
theorem digs_ne (u : Nat) : Lib.decDigits u ≠ [] := by
  rw [Lib.decDigits]
  split <;> simp
theorem atoi_digs {n : Int} (h0 : 0 ≤ n) (h1 : n ≤ 2147483647) : Lib.atoiAll (Lib.itoa n) = .ok n := by
  have e : Lib.itoa n = Lib.decDigits n.toNat := by unfold Lib.itoa; rw [if_neg (by omega)]
  have hm := digs_mem _ n.toNat (Nat.le_refl _)
  have hp := parse_digs _ n.toNat (Nat.le_refl _) (by omega)
  have hne := digs_ne n.toNat
  rw [e]
  generalize Lib.decDigits n.toNat = l at *
  cases l with
  | nil => exact absurd rfl hne
  | cons c r =>
    have hc := dig_rng (hm c (by simp))
    have hs : ¬ (c.toNat = 43 ∨ c.toNat = 45) := by omega
    have hneg : ¬ c.toNat = 45 := by omega
    have hp2 : Lib.parseMag (c :: r) = .ok n.toNat := by unfold Lib.parseMag; rw [if_neg (by simp), hp]
    unfold Lib.atoiAll
    simp only [if_neg hs, hp2]
    simp only [hneg, not_false_eq_true, true_and, false_and, if_false]
    rw [if_neg (by omega)]
    congr 1; omega
theorem numP_itoa (n : Int) : numP (Lib.itoa n) = if 0 ≤ n ∧ n ≤ 2147483647 then some n else none := by
  split
  · rename_i h
    unfold numP
    rw [atoi_digs h.1 h.2]
    simp [h]
  · rename_i h
    cases hx : numP (Lib.itoa n) with
    | none => rfl
    | some v =>
      obtain ⟨h1, h2⟩ := numP_some hx
      rw [itoa_inj h2] at h1
      exact absurd h1 h
theorem numsP_itoa : ∀ (l : List Int), numsP (l.map Lib.itoa) = if ∀ n ∈ l, 0 ≤ n ∧ n ≤ 2147483647 then some l else none
  | [] => by simp [numsP]
  | n :: r => by
    simp only [List.map_cons, numsP, numP_itoa, numsP_itoa r]
    by_cases h : 0 ≤ n ∧ n ≤ 2147483647
    · rw [if_pos h]
      by_cases h2 : ∀ m ∈ r, 0 ≤ m ∧ m ≤ 2147483647
      · rw [if_pos h2, if_pos (fun m hm => by rcases List.mem_cons.1 hm with rfl | hm; exact h; exact h2 m hm)]
      · rw [if_neg h2, if_neg (fun h3 => h2 fun m hm => h3 m (by simp [hm]))]
    · have h4 : ¬ ∀ m ∈ n :: r, 0 ≤ m ∧ m ≤ 2147483647 := fun h3 => h (h3 n List.mem_cons_self)
      rw [if_neg h, if_neg h4]
theorem numsP_some : ∀ {W : List (List UInt8)} {l : List Int}, numsP W = some l → W = l.map Lib.itoa ∧ ∀ n ∈ l, 0 ≤ n ∧ n ≤ 2147483647
  | [], l, h => by cases h; simp
  | w :: r, l, h => by
    simp only [numsP] at h
    cases hw : numP w with
    | none => rw [hw] at h; cases h
    | some v =>
      rw [hw] at h
      cases hr : numsP r with
      | none => rw [hr] at h; cases h
      | some m =>
        rw [hr] at h
        cases h
        obtain ⟨h1, h2⟩ := numP_some hw
        obtain ⟨h3, h4⟩ := numsP_some hr
        refine ⟨by rw [List.map_cons, h2, ← h3], fun n hn => ?_⟩
        rcases List.mem_cons.1 hn with rfl | hn
        · exact h1
        · exact h4 n hn
theorem dots_join (l : List Int) : dots l = joinC 46 (l.map Lib.itoa) := join_eq' 46 _
theorem itoa_46 (n : Int) : (46 : UInt8) ∉ Lib.itoa n := itoa_no (by decide) (by decide)
theorem itoa_32 (n : Int) : (32 : UInt8) ∉ Lib.itoa n := itoa_no (by decide) (by decide)
theorem dots_32 : ∀ (l : List Int), (32 : UInt8) ∉ dots l
  | [] => by rw [dots_join]; simp [joinC]
  | [n] => by rw [dots_join]; exact itoa_32 n
  | n :: m :: r => by
    have ih := dots_32 (m :: r)
    rw [dots_join] at ih ⊢
    rw [List.map_cons, joinC_cons _ _ (by simp)]
    intro hm
    rcases List.mem_append.1 hm with h | h
    · exact itoa_32 n h
    · rcases List.mem_cons.1 h with h | h
      · exact absurd h (by decide)
      · exact ih h
theorem dotP_dots {l : List Int} (h : l ≠ []) (many : Nat) : dotP (dots l) many = if l.length = many ∧ ∀ n ∈ l, 0 ≤ n ∧ n ≤ 2147483647 then some l else none := by
  have hs : splitC 46 (dots l) = l.map Lib.itoa := by
    rw [dots_join]
    exact splitC_join 46 _ (by simpa using h) (fun w hw => by obtain ⟨n, _, rfl⟩ := List.mem_map.1 hw; exact itoa_46 n)
  unfold dotP
  rw [hs, List.length_map, numsP_itoa]
  by_cases h1 : l.length = many
  · rw [if_pos h1]
    by_cases h2 : ∀ n ∈ l, 0 ≤ n ∧ n ≤ 2147483647
    · rw [if_pos h2, if_pos ⟨h1, h2⟩]
    · rw [if_neg h2, if_neg (fun h => h2 h.2)]
  · rw [if_neg h1, if_neg (fun h => h1 h.1)]
theorem dots_one (n : Int) : dots [n] = Lib.itoa n := by rw [dots_join]; rfl
theorem dotP_itoa (n : Int) : dotP (Lib.itoa n) 1 = if 0 ≤ n ∧ n ≤ 2147483647 then some [n] else none := by
  have := dotP_dots (l := [n]) (by simp) 1
  rw [dots_one] at this
  rw [this]
  by_cases h : 0 ≤ n ∧ n ≤ 2147483647
  · rw [if_pos h, if_pos ⟨rfl, fun m hm => by obtain rfl := List.mem_singleton.1 hm; exact h⟩]
  · rw [if_neg h, if_neg (fun h2 => h (h2.2 n (by simp)))]
theorem dotP_some {s : List UInt8} {many : Nat} {l : List Int} (h : dotP s many = some l) : s = dots l ∧ l.length = many ∧ ∀ n ∈ l, 0 ≤ n ∧ n ≤ 2147483647 := by
  have hl := dotP_n h
  unfold dotP at h
  split at h
  · obtain ⟨h1, h2⟩ := numsP_some h
    refine ⟨?_, hl, h2⟩
    rw [dots_join, ← h1, join_split]
  · cases h
/-! ### Words -/
theorem kUp_some {ws : List ByteArray} {x : ByteArray} : ∀ {n : Nat} {k : Int}, kUp ws x n = k → k ≠ 0 → ∃ i : Nat, i < n ∧ 0 < i ∧ k = i ∧ x = ws.getD i ⟨#[]⟩
  | 0, k, h, hk => by simp [kUp] at h; exact absurd h.symm hk
  | n + 1, k, h, hk => by
    unfold kUp at h
    split at h
    · rename_i h1
      exact ⟨n, by omega, h1.1, h.symm, h1.2⟩
    · obtain ⟨i, h1, h2⟩ := kUp_some h hk
      exact ⟨i, by omega, h2⟩
end Go.Proofs.YtinjgckpmblffaaDoor.Vm
