/- The iterator over the tokens of a source. -/
import Derived.Test.YthaccjcadgodlaaDoorL6
import Derived.Test.YthaccjcadgodlaaDoorVmZ
namespace Go.Proofs.YthaccjcadgodlaaDoor.Vm
open Go.RowKit
set_option linter.unusedSimpArgs false
set_option linter.unusedVariables false
set_option maxRecDepth 100000
/-- What the iterator yields: a token, where it is, whether it is none. -/
structure It where
  tok : Tk
  pos : Nat
  err : Int
def tokV (t : Tk) : Value := .agg #[.int .i64 t.kind, .int .i64 t.pos, .string t.text, .int .i64 t.n]
def clP (n : Nat) : Nat := if n ≤ 1000000000 then n else 0
def clE (e : Int) : Int := if 0 ≤ e ∧ e ≤ 100 then e else 0
theorem clP_rng (n : Nat) : clP n ≤ 1000000000 := by unfold clP; split <;> omega
theorem clE_rng (e : Int) : 0 ≤ clE e ∧ clE e ≤ 100 := by unfold clE; split <;> omega
def encIt (x : It) : Array Value := #[tokV x.tok, .agg #[.int .i64 (clP x.pos : Nat), .int .i64 (clE x.err)]]
theorem tokF_rng {l : List UInt8} {e : Int} (h : tokF l = .bad e) : 0 ≤ e ∧ e ≤ 100 := by
  cases l with
  | nil => simp [tokF] at h; omega
  | cons c r =>
    cases hL : isL c
    · cases hD : isD c
      · cases h3 : hasF twos (bs ((c :: r).take 2))
        · cases h4 : hasF ones (bs [c])
          · simp only [tokF, hL, hD, h3, h4] at h
            cases h; decide
          · simp only [tokF, hL, hD, h3, h4] at h
            cases h
        · simp only [tokF, hL, hD, h3] at h
          cases h
      · simp only [tokF, hL, hD] at h
        split at h
        · cases h; decide
        · cases h
    · simp only [tokF, hL] at h
      split at h
      · cases h; decide
      · cases h
def itOk (t : Tk) : It := ⟨t, t.pos, 0⟩
/-- All that comes; the last may be no token. -/
def AllIt (s : ByteArray) (xs : List It) : Prop := match (lexF' s).err with
  | none => xs = (lexF' s).toks.map itOk
  | some (p, e) => ∃ t, xs = (lexF' s).toks.map itOk ++ [⟨t, p, e⟩]
def SomeIt (s : ByteArray) (xs : List It) : Prop := ∃ ys, AllIt s ys ∧ xs <+: ys
theorem valF_max : ∀ (l : List UInt8) (n : Int), n ≤ 2147483647 → valF n l ≤ 2147483647
  | [], n, h => h
  | c :: r, n, h => by
    unfold valF
    split
    · omega
    · exact valF_max r _ (by omega)
def scanT (l : Nat) (s : ByteArray) (L : List A) (p : Nat) : List A := [.v (.func (.yield l) #[] #[]), .pp [.v (.string s)], .pp L, .dead, .v (.int .i64 p)] ++ List.replicate 108 .dead
theorem scan1_stops (s : ByteArray) (hs : s.size ≤ 1000000000) (n B : Nat) (lb : Array Value) (w0 : World) (C : Rd) (hv : ValB B w0) (hsub : Sub C w0.cell?) (hg : Gok C) (hno : ∀ ad u, C ad = some u → ¬ ownB B w0 ad.block)
    (hrep : A.repL [.pp [.v (.string s)], .pp (clsL classOf)] ⟨C, [], []⟩ lb.toList) :
    SeqStopsK Fence.wide n Tryd.prog 26 lb encIt (KpB B) (AllIt s) (SomeIt s) s.size w0 := by
  intro l J Jx W hW hJ hJx hY h0
  have hsl := size_len s
  have hsubW : Sub C W.cell? := fun ad u hc => by
    have h1 := hsub ad u hc
    exact (hW.cell (World.block_lt_of_cell? w0 ad h1)).trans h1
  have hvW : ValB B W ∧ ∀ b, ownB B W b ↔ ownB B w0 b := by
    refine hv.keeps ⟨hW.os, hW.tape, hW.output, hW.size, fun b hb _ => hW.block b hb⟩
  have hnoW : ∀ ad u, C ad = some u → ¬ ownB B W ad.block := fun ad u hc ho => hno ad u hc ((hvW.2 _).1 ho)
  obtain ⟨L, hL⟩ : ∃ L, L = clsL classOf := ⟨_, rfl⟩
  rw [← hL] at hrep
  have hc : (Cx.mk Tryd.prog tab ord26 (fun _ => [0]) 0).ok := cx_ok ord26 (fun _ => [0]) 0
  refine callsIn_of_wp Tryd.func26 rfl trivial ?_
  have hi := inv_start (n := 113) hg hsubW (args := [.v (.func (.yield l) #[] #[]), .pp [.v (.string s)], .pp L]) (vals := #[.func (.yield l) #[] #[]] ++ lb) (by
    simp only [Array.toList_append]
    refine ⟨_, _, rfl, A.rep_v trivial, ?_⟩
    simpa using hrep)
  refine piece_i hc rfl hi (by kernel_rfl) ?_
  conv => whnf
  intro a W1 hi
  refine wpIn_block ?_
  refine wpIn_loop (fun a w => ∃ (ts : List Tk) (p : Nat) (C : Rd), Inv w C [] ⟨scanT l s L p, [], []⟩ a w ∧ ValB B w ∧ (∀ ad u, C ad = some u → ¬ ownB B w ad.block) ∧ J (ts.map itOk) w ∧ p ≤ s.size ∧ ts.length ≤ p ∧ Lx.app ts (lexL p (s.data.toList.drop p)) = lexF' s)
    (fun a _ => s.size - (intOf (a.tmps.getD 4 undef)).toNat) ?_ ?_
  · obtain ⟨hk, hy⟩ := hi.yielded hvW.1 hnoW
    obtain ⟨C', i1, i2, i3⟩ := hy W1 (KpB.refl B W1)
    exact ⟨[], 0, C', i1, i2, i3, abides_keeps hJ h0 hk, Nat.zero_le _, Nat.zero_le _, rfl⟩
  rintro a w ⟨ts, p, C, hi, hv, hno, hj, hp, hts, hinv⟩
  have hp4 : intOf (a.tmps.getD 4 undef) = p := by rw [of_slot hi (i := 4) (v := .int .i64 p) rfl]; rfl
  refine piece_i hc rfl hi (by kernel_rfl) ?_
  conv => whnf
  by_cases hlt : p < s.size
  · refine br_true (by simp; omega) ?_
    conv => whnf
    intro a' w' hi'
    refine wpIn_block ?_
    obtain ⟨c, r, hd⟩ : ∃ c r, s.data.toList.drop p = c :: r := ⟨_, _, drop_cons s.data.toList p (by omega)⟩
    have hrl : (c :: r).length = s.size - p := by rw [← hd, List.length_drop, hsl]
    have hR : s.extract (Int.toNat (p : Int)) (Int.toNat (s.size : Int)) = bs (c :: r) := by rw [extract_bs, ← hd]; congr 1; apply List.take_of_length_le; rw [List.length_drop]; omega
    have hbs := bs_size (c :: r)
    refine piece_k hc rfl hi' (by kernel_rfl) ?_
    conv => whnf
    refine ⟨by omega, ?_⟩
    rw [hR]
    generalize hb : bs (c :: r) = b at *
    conv => whnf
    intro a2 w2 hi2
    replace hi2 := (hi2.le (le_pp rfl) rfl).le (le_slots (t' := [.v (.func (.yield l) #[] #[]), .pp [.v (.string s)], .pp L, .dead, .v (.int .i64 p), .pp [.v (.string b)]] ++ List.replicate 107 .dead) (by repeat' constructor)) rfl
    refine piece_i hc rfl hi2 (by kernel_rfl) ?_
    conv => whnf
    intro a3 w3 hi3
    refine piece_k hc rfl hi3 (by kernel_rfl) ?_
    conv => whnf
    intro a4 w4 hi4
    refine piece_k hc rfl hi4 (by kernel_rfl) ?_
    conv => whnf
    intro a5 w5 hi5
    have hd1 : ∀ k, s.data.toList.drop (p + k) = (c :: r).drop k := fun k => by rw [← hd, List.drop_drop]
    have hbL : b.size = s.size - p := by rw [hbs]; exact hrl
    have hrl2 : r.length + 1 = s.size - p := by simpa using hrl
    have hws := word_span b (by omega)
    have hns := num_span b (by omega)
    rw [← hL] at hws hns
    refine wpIn_seq (piece_ok (q := fun e s' => match e with
      | .normal => ∃ (tk : Tk) (e : Int), (isHash c = false ∧ isSp c = false) ∧ tk.pos = p ∧ tk.text.size ≤ s.size ∧ (e = 0 ∧ (∃ len, tokF (c :: r) = .tok tk.kind len tk.n ∧ tk.text = bs ((c :: r).take len)) ∨ e ≠ 0 ∧ tokF (c :: r) = .bad e) ∧
          Le 0 s' ⟨[.v (.func (.yield l) #[] #[]), .pp [.v (.string s)], .pp L, .dead, .v (.int .i64 p), .dead, .dead, .pp (tkL tk), intA e] ++ List.replicate 104 .dead, [], []⟩
      | .exit x => x = 1 ∧ ∃ p', p < p' ∧ p' ≤ s.size ∧ Lx.app ts (lexL p' (s.data.toList.drop p')) = lexF' s ∧ Le 0 s' ⟨scanT l s L p', [], []⟩
      | .ret => lexF' s = ⟨ts, none⟩
      | _ => False) hc rfl (by kernel_rfl) hi5 ?_ ?_)
    · conv => whnf
      refine ⟨⟨by omega, by rw [hbs]; simp⟩, ?_⟩
      rw [show b.data.toList.getD (Int.toNat 0) 0 = c from by rw [← hb, bs_list]; rfl]
      have hcb := byte_fit c
      conv => whnf
      refine ⟨⟨by omega, by omega⟩, ?_⟩
      generalize hq : rowOf _ (Int.toNat (c.toNat : Int)) L = q
      obtain rfl : q = [.v (.int .u8 (classOf c.toNat))] := by rw [← hq, hL]; exact rowOf_cls classOf c.toNat (by omega)
      conv => whnf
      rw [cls_sp]
      cases hsp : isSp c with
      | true =>
        have hha : isHash c = false := by
          simp only [isSp, isHash, Bool.or_eq_true, decide_eq_true_eq, decide_eq_false_iff_not] at hsp ⊢
          omega
        conv => whnf
        refine ⟨i64r (by omega), ?_⟩
        conv => whnf
        refine ⟨rfl, p + 1, by omega, by omega, ?_, (le_pp rfl).trans (le_slots (by repeat' constructor))⟩
        rw [hd1 1, ← hinv, hd, lexL_sp hha hsp]; rfl
      | false =>
        conv => whnf
        rw [cls_hash]
        cases hha : isHash c with
        | true =>
          conv => whnf
          refine call0 [] rfl (fun _ => nlIndex_spec b (by omega)) ?_
          rintro x rfl
          have hno : noNl c = true := by
            simp only [isHash, noNl, decide_eq_true_eq, Bool.not_eq_true', decide_eq_false_iff_not] at hha ⊢
            omega
          have hsp1 : spanN noNl (c :: r) = spanN noNl r + 1 := by simp [spanN, hno]
          have hle := spanN_le noNl r
          have hlx := lexL_hash (p := p) (r := r) hha
          have hix : idxF noNl b.data.toList = if spanN noNl r + 1 < r.length + 1 then ((spanN noNl r + 1 : Nat) : Int) else -1 := by
            unfold idxF; rw [← hb, bs_list, hsp1]; rfl
          generalize idxF noNl b.data.toList = v at *
          conv => whnf
          by_cases hlt2 : spanN noNl r < r.length
          · rw [if_pos (by omega)] at hix
            refine br_false (b := decide (v < 0)) (decide_eq_false (by omega)) ?_
            conv => whnf
            refine ⟨i64r (by omega), ?_⟩
            conv => whnf
            rw [hix]
            refine ⟨rfl, p + (spanN noNl r + 1), by omega, by omega, ?_, (le_pp rfl).trans (le_slots (by repeat' constructor))⟩
            rw [hd1 _, ← hinv, hd, hlx, List.drop_succ_cons, Nat.add_comm (spanN noNl r) 1, ← Nat.add_assoc]
          · rw [if_neg (by omega)] at hix
            refine br_true (b := decide (v < 0)) (decide_eq_true (by omega)) ?_
            conv => whnf
            rw [← hinv, hd, hlx, List.drop_of_length_le (by omega), lexL_nil]
            simp [Lx.app]
        | false =>
          conv => whnf
          rw [cls_L]
          cases hL1 : isL c with
          | true =>
            conv => whnf
            refine call0 [] rfl (fun _ => hws) ?_
            rintro x rfl
            have hsp1 : spanN isLD (c :: r) = spanN isLD r + 1 := by simp [spanN, isLD, hL1]
            have hle := spanN_le isLD r
            have htok : tokF (c :: r) = if 10 < spanN isLD r + 1 then .bad 2 else .tok 1 (spanN isLD r + 1) 0 := by simp only [tokF, hL1]
            have hw := take_size (c :: r) (spanN isLD r + 1) (by simp; omega)
            have hcut : b.extract (Int.toNat 0) (Int.toNat ((spanN isLD r + 1 : Nat) : Int)) = bs ((c :: r).take (spanN isLD r + 1)) := by
              rw [ext_take b (Int.toNat 0) _ (spanN isLD r + 1) (by simp; omega) (by simp), ← hb, bs_list]; rfl
            rw [← hb, bs_list, hsp1, hb]
            conv => whnf
            refine ⟨⟨by omega, by omega, by omega⟩, ?_⟩
            rw [hcut]
            generalize hwd : bs ((c :: r).take (spanN isLD r + 1)) = wd at *
            conv => whnf
            by_cases hlong : 10 < spanN isLD r + 1
            · rw [if_pos hlong] at htok
              refine br_true (b := decide ((10 : Int) < (wd.size : Int))) (decide_eq_true (by omega)) ?_
              conv => whnf
              exact ⟨⟨1, p, wd, 0⟩, 2, ⟨rfl, rfl⟩, rfl, by show wd.size ≤ s.size; omega, .inr ⟨by decide, htok⟩, (le_pp rfl).trans (le_slots (by repeat' constructor))⟩
            · rw [if_neg hlong] at htok
              refine br_false (b := decide ((10 : Int) < (wd.size : Int))) (decide_eq_false (by omega)) ?_
              conv => whnf
              exact ⟨⟨1, p, wd, 0⟩, 0, ⟨rfl, rfl⟩, rfl, by show wd.size ≤ s.size; omega, .inl ⟨rfl, _, htok, hwd.symm⟩, (le_pp rfl).trans (le_slots (by repeat' constructor))⟩
          | false =>
            conv => whnf
            rw [cls_D]
            cases hD1 : isD c with
            | true =>
              conv => whnf
              refine call0 [] rfl (fun _ => hns) ?_
              rintro x rfl
              have hsp1 : spanN isD (c :: r) = spanN isD r + 1 := by simp [spanN, hD1]
              have hle := spanN_le isD r
              have htok : tokF (c :: r) = if valF 0 (c :: r.take (spanN isD r)) < 0 then .bad 6 else .tok 2 (spanN isD r + 1) (valF 0 (c :: r.take (spanN isD r))) := by simp only [tokF, hL1, hD1]
              have hw := take_size (c :: r) (spanN isD r + 1) (by simp; omega)
              have hcut : b.extract (Int.toNat 0) (Int.toNat ((spanN isD r + 1 : Nat) : Int)) = bs ((c :: r).take (spanN isD r + 1)) := by
                rw [ext_take b (Int.toNat 0) _ (spanN isD r + 1) (by simp; omega) (by simp), ← hb, bs_list]; rfl
              have hpu := pu_spec (bs ((c :: r).take (spanN isD r + 1))) (by rw [hw]; omega) (by rw [hw]; omega) (by
                intro x hx
                rw [bs_list, ← hsp1] at hx
                exact span_take isD _ x hx)
              rw [bs_list, List.take_succ_cons] at hpu
              rw [← List.take_succ_cons] at hpu
              rw [← hb, bs_list, hsp1, hb]
              conv => whnf
              refine ⟨⟨by omega, by omega, by omega⟩, ?_⟩
              rw [hcut]
              generalize hwd : bs ((c :: r).take (spanN isD r + 1)) = wd at *
              conv => whnf
              refine call0 [] rfl (fun _ => hpu) ?_
              rintro x rfl
              have hvl : valF 0 ((c :: r).take (spanN isD r + 1)) = valF 0 (c :: r.take (spanN isD r)) := by rw [List.take_succ_cons]
              rw [hvl]
              have hmx := valF_max (c :: r.take (spanN isD r)) 0 (by omega)
              generalize valF 0 (c :: r.take (spanN isD r)) = v at *
              by_cases hneg : v < 0
              · rw [if_pos hneg] at htok ⊢
                conv => whnf
                refine ⟨i64r (by omega), ?_⟩
                conv => whnf
                exact ⟨⟨2, p, wd, 2147483647⟩, 6, ⟨rfl, rfl⟩, rfl, by show wd.size ≤ s.size; omega, .inr ⟨by decide, htok⟩, (le_pp rfl).trans (le_of (by repeat' constructor))⟩
              · rw [if_neg hneg] at htok ⊢
                conv => whnf
                refine ⟨i64r (by omega), ?_⟩
                conv => whnf
                exact ⟨⟨2, p, wd, v⟩, 0, ⟨rfl, rfl⟩, rfl, by show wd.size ≤ s.size; omega, .inl ⟨rfl, _, htok, hwd.symm⟩, (le_pp rfl).trans (le_of (by repeat' constructor))⟩
            | false =>
              conv => whnf
              have h1c : (bs [c]).size = 1 := by rw [bs_size]; rfl
              have hcut1 : b.extract (Int.toNat 0) (Int.toNat 1) = bs [c] := by
                rw [ext_take b (Int.toNat 0) _ 1 (by simp; omega) (by simp), ← hb, bs_list]; rfl
              by_cases hone : 1 < r.length + 1
              · have hcut2 : b.extract (Int.toNat 0) (Int.toNat 2) = bs ((c :: r).take 2) := by
                  rw [ext_take b (Int.toNat 0) _ 2 (by simp; omega) (by simp), ← hb, bs_list]; rfl
                have h2c := take_size (c :: r) 2 (by simp; omega)
                rw [show decide ((1 : Int) < (b.size : Int)) = true from decide_eq_true (by omega)]
                conv => whnf
                refine ⟨⟨by omega, by omega, by omega⟩, ?_⟩
                rw [hcut2]
                generalize hwd : bs ((c :: r).take 2) = wd at *
                conv => whnf
                refine call0 [0] rfl (fun _ => contains_spec twos wd (by decide)) ?_
                rintro x rfl
                cases h2 : hasF twos wd with
                | true =>
                  have htok : tokF (c :: r) = .tok 3 2 0 := by simp only [tokF, hL1, hD1, hwd, h2]
                  conv => whnf
                  refine ⟨⟨by omega, by omega, by omega⟩, ?_⟩
                  rw [hcut2]
                  conv => whnf
                  exact ⟨⟨3, p, wd, 0⟩, 0, ⟨rfl, rfl⟩, rfl, by show wd.size ≤ s.size; omega, .inl ⟨rfl, _, htok, hwd.symm⟩, (le_pp rfl).trans (le_of (by repeat' constructor))⟩
                | false =>
                  rw [← hwd] at h2
                  conv => whnf
                  rw [cls_S]
                  generalize hwd1 : bs [c] = w1 at *
                  cases h1 : hasF ones w1 with
                  | true =>
                    have htok : tokF (c :: r) = .tok 3 1 0 := by simp only [tokF, hL1, hD1, h2, hwd1, h1]
                    conv => whnf
                    refine ⟨⟨by omega, by omega, by omega⟩, ?_⟩
                    rw [hcut1]
                    conv => whnf
                    exact ⟨⟨3, p, w1, 0⟩, 0, ⟨rfl, rfl⟩, rfl, by show w1.size ≤ s.size; omega, .inl ⟨rfl, _, htok, hwd1.symm⟩, (le_pp rfl).trans (le_of (by repeat' constructor))⟩
                  | false =>
                    have htok : tokF (c :: r) = .bad 10 := by simp only [tokF, hL1, hD1, h2, hwd1, h1]
                    conv => whnf
                    exact ⟨⟨0, p, ⟨#[]⟩, 0⟩, 10, ⟨rfl, rfl⟩, rfl, Nat.zero_le _, .inr ⟨by decide, htok⟩, (le_pp rfl).trans (le_of (by repeat' constructor))⟩
              · have h2 : hasF twos (bs ((c :: r).take 2)) = false := by
                  obtain rfl : r = [] := List.eq_nil_of_length_eq_zero (by omega)
                  have : ∀ n : Fin 256, hasF twos (bs [UInt8.ofNat n.val]) = false := by decide +kernel
                  have h := this ⟨c.toNat, c.toNat_lt⟩
                  simpa using h
                rw [show decide ((1 : Int) < (b.size : Int)) = false from decide_eq_false (by omega)]
                conv => whnf
                rw [cls_S]
                generalize hwd1 : bs [c] = w1 at *
                cases h1 : hasF ones w1 with
                | true =>
                  have htok : tokF (c :: r) = .tok 3 1 0 := by simp only [tokF, hL1, hD1, h2, hwd1, h1]
                  conv => whnf
                  refine ⟨⟨by omega, by omega, by omega⟩, ?_⟩
                  rw [hcut1]
                  conv => whnf
                  exact ⟨⟨3, p, w1, 0⟩, 0, ⟨rfl, rfl⟩, rfl, by show w1.size ≤ s.size; omega, .inl ⟨rfl, _, htok, hwd1.symm⟩, (le_pp rfl).trans (le_of (by repeat' constructor))⟩
                | false =>
                  have htok : tokF (c :: r) = .bad 10 := by simp only [tokF, hL1, hD1, h2, hwd1, h1]
                  conv => whnf
                  exact ⟨⟨0, p, ⟨#[]⟩, 0⟩, 10, ⟨rfl, rfl⟩, rfl, Nat.zero_le _, .inr ⟨by decide, htok⟩, (le_pp rfl).trans (le_of (by repeat' constructor))⟩
    · intro e s' a6 w6 hq hi6
      match e, hq with
      | .exit x, hq =>
        obtain ⟨rfl, p', hp1, hp2, hp3, hle⟩ := hq
        replace hi6 := hi6.le hle rfl
        obtain ⟨hk, hy⟩ := hi6.yielded hv hno
        obtain ⟨C', i1, i2, i3⟩ := hy w6 (KpB.refl B w6)
        refine ⟨⟨ts, p', C', i1, i2, i3, abides_keeps hJ hj hk, hp2, by omega, hp3⟩, ?_⟩
        rw [hp4, of_slot hi6 (i := 4) (v := .int .i64 p') rfl]
        simp only [intOf]
        omega
      | .ret, hq =>
        have hk : Keeps [] w w6 := by obtain ⟨E, hp, _, _⟩ := hi6; exact hp.keep
        change bodyPost Tryd.prog _ (fun e W' => (∃ v, e = .returned v) ∧ ((∃ xs, AllIt s xs ∧ J xs W') ∨ (∃ pre, SomeIt s pre ∧ Jx pre W'))) .ret a6 w6
        refine bodyPost_ret (results_none rfl _ _ _) (by obtain ⟨E, _, _, hd⟩ := hi6; exact hd) ⟨⟨_, rfl⟩, .inl ⟨_, ?_, abides_keeps hJ hj hk⟩⟩
        unfold AllIt
        rw [hq]
      | .normal, hq =>
        obtain ⟨tk, e, hcl, htp, htz, hgood, hle⟩ := hq
        replace hi6 := hi6.le hle rfl
        refine wpIn_seq (wpIn_seq (wpIn_region_lit ?_))
        refine seqIn_i 5 hc hi6 ?_
        conv => whnf
        intro a7 w7 hi7
        obtain ⟨hk, hy⟩ := hi7.yielded hv hno
        have e1 : a7.tmps.getD 98 undef = tokV tk := of_agg hi7 (vs := [.int .i64 tk.kind, .int .i64 tk.pos, .string tk.text, .int .i64 tk.n]) rfl
        have e2 : a7.tmps.getD 101 undef = .agg #[.int .i64 p, .int .i64 e] := of_agg hi7 (vs := [.int .i64 p, .int .i64 e]) rfl
        have hclP : clP p = p := if_pos (by omega)
        have hclE : clE e = e := if_pos (by
          rcases hgood with ⟨h, _⟩ | ⟨_, h⟩
          · omega
          · exact tokF_rng h)
        have hlen : (ts.map itOk).length < s.size := by rw [List.length_map]; omega
        refine seqIn_yield (l := l) (vals := encIt ⟨tk, p, e⟩) rfl rfl (of_slot hi7 (i := 97) (v := .func (.yield l) #[] #[]) rfl) (by rw [show Array.map a7.eval #[.tmp 98, .tmp 101] = #[a7.eval (.tmp 98), a7.eval (.tmp 101)] from by simp]; show #[a7.tmps.getD 98 undef, a7.tmps.getD 101 undef] = #[tokV tk, .agg #[.int .i64 (clP p : Nat), .int .i64 (clE e)]]; rw [e1, e2, hclP, hclE]) (hY (ts.map itOk) ⟨tk, p, e⟩ w7 (abides_keeps hJ hj hk) hlen) ?_
        rintro x w8 (⟨rfl, hj8, hkp⟩ | ⟨rfl, hjx8⟩)
        · refine ⟨_, rfl, ?_⟩
          obtain ⟨C', i1, i2, i3⟩ := hy w8 hkp
          refine put_k (G := fun a => wpListIn _ _ _ _ _ _ a _) i1 trivial ?_
          conv => whnf
          intro a8 hi8
          refine seqIn_k 5 hc hi8 ?_
          conv => whnf
          intro a9 w9 hi9
          have hd9 : a9.defers = [] := by obtain ⟨E, _, _, hd⟩ := hi9; exact hd
          obtain ⟨hk9, hy9⟩ := hi9.yielded i2 i3
          have hj9 := abides_keeps hJ hj8 hk9
          rcases hgood with ⟨rfl, len, htok, htx⟩ | ⟨hne, htok⟩
          · rw [hd, lexL_tok hcl.1 hcl.2 htok, app_cons] at hinv
            have hl := tokF_len htok
            have hsz : tk.text.size = len := by rw [htx]; exact take_size _ _ hl.2
            refine cond_in (i := 107) (b := false) hi9 rfl ?_
            rw [if_neg (by simp)]
            refine wpIn_skip (wpIn_region_lit ?_)
            refine seqIn_k 6 hc hi9 ?_
            conv => whnf
            refine ⟨i64r (by omega), ?_⟩
            conv => whnf
            intro a10 w10 hi10
            replace hi10 := hi10.le (le_of (s' := ⟨scanT l s L (p + len), [], []⟩) (by rw [← hsz]; repeat' constructor)) rfl
            obtain ⟨hk10, hy10⟩ := hi10.yielded i2 i3
            obtain ⟨C2, j1, j2, j3⟩ := hy10 w10 (KpB.refl B w10)
            have htk : (⟨tk.kind, p, bs (List.take len (c :: r)), tk.n⟩ : Tk) = tk := by rw [← htx, ← htp]
            have hit : (⟨tk, p, 0⟩ : It) = itOk tk := by unfold itOk; rw [htp]
            rw [hit] at hj8
            refine ⟨⟨ts ++ [tk], p + len, C2, j1, j2, j3, ?_, by simp at hl; omega, by simp; omega, ?_⟩, ?_⟩
            · rw [List.map_append]
              exact abides_keeps hJ hj8 hk10
            · rw [hd1 len, ← hinv, htk]
            · rw [hp4, of_slot hi10 (i := 4) (v := .int .i64 (p + len : Nat)) rfl]
              simp only [intOf]
              omega
          · refine cond_in (i := 107) (b := true) hi9 (by show A.v (.bool (!decide (e = 0))) = _; rw [decide_eq_false hne]; rfl) ?_
            rw [if_pos rfl]
            refine wpIn_ret ?_
            change bodyPost Tryd.prog _ (fun e W' => (∃ v, e = .returned v) ∧ ((∃ xs, AllIt s xs ∧ J xs W') ∨ (∃ pre, SomeIt s pre ∧ Jx pre W'))) .ret a9 w9
            refine bodyPost_ret (results_none rfl _ _ _) hd9 ⟨⟨_, rfl⟩, .inl ⟨_, ?_, hj9⟩⟩
            rw [hd, lexL_bad hcl.1 hcl.2 htok] at hinv
            unfold AllIt
            rw [← hinv]
            exact ⟨tk, by simp [Lx.app]⟩
        · refine ⟨_, rfl, ?_⟩
          refine put_k (G := fun a => wpListIn _ _ _ _ _ _ a _) hi7 trivial ?_
          conv => whnf
          intro a8 hi8
          refine seqPure_ok hc hi8 ?_
          conv => whnf
          intro a9 hi9
          refine cond_in (i := 107) (b := true) hi9 rfl ?_
          rw [if_pos rfl]
          refine wpIn_ret ?_
          change bodyPost Tryd.prog _ (fun e W' => (∃ v, e = .returned v) ∧ ((∃ xs, AllIt s xs ∧ J xs W') ∨ (∃ pre, SomeIt s pre ∧ Jx pre W'))) .ret a9 w8
          refine bodyPost_ret (results_none rfl _ _ _) (by obtain ⟨E, _, _, hd⟩ := hi9; exact hd) ⟨⟨_, rfl⟩, .inr ⟨_, ?_, hjx8⟩⟩
          rcases hgood with ⟨rfl, len, htok, htx⟩ | ⟨hne, htok⟩
          · rw [hd, lexL_tok hcl.1 hcl.2 htok, app_cons] at hinv
            generalize lexL (p + len) (List.drop len (c :: r)) = rest at *
            have htk : (⟨tk.kind, p, bs (List.take len (c :: r)), tk.n⟩ : Tk) = tk := by rw [← htx, ← htp]
            rw [htk] at hinv
            have hit : (⟨tk, p, 0⟩ : It) = itOk tk := by unfold itOk; rw [htp]
            rw [hit]
            unfold SomeIt AllIt
            rw [← hinv]
            cases hr : rest.err with
            | none => exact ⟨(ts ++ [tk] ++ rest.toks).map itOk, by simp [Lx.app, hr], ⟨rest.toks.map itOk, by simp⟩⟩
            | some x => exact ⟨(ts ++ [tk] ++ rest.toks).map itOk ++ [⟨tk, x.1, x.2⟩], by simp only [Lx.app, hr]; exact ⟨tk, by simp⟩, ⟨rest.toks.map itOk ++ [⟨tk, x.1, x.2⟩], by simp⟩⟩
          · rw [hd, lexL_bad hcl.1 hcl.2 htok] at hinv
            refine ⟨_, ?_, List.prefix_rfl⟩
            unfold AllIt
            rw [← hinv]
            exact ⟨tk, by simp [Lx.app]⟩
  · refine br_false (by simp; omega) ?_
    obtain rfl : p = s.size := by omega
    conv => whnf
    intro a' w' hi'
    rw [List.drop_of_length_le (by omega), lexL_nil] at hinv
    obtain ⟨hk, hy⟩ := hi'.yielded hv hno
    change bodyPost Tryd.prog _ (fun e W' => (∃ v, e = .returned v) ∧ ((∃ xs, AllIt s xs ∧ J xs W') ∨ (∃ pre, SomeIt s pre ∧ Jx pre W'))) .normal a' w'
    refine bodyPost_end (results_none rfl _ _ _) (by obtain ⟨E, _, _, hd⟩ := hi'; exact hd) ⟨⟨_, rfl⟩, .inl ⟨_, ?_, abides_keeps hJ hj hk⟩⟩
    unfold AllIt
    rw [← hinv]
    simp [Lx.app]
end Go.Proofs.YthaccjcadgodlaaDoor.Vm
