/- Memory with colours: what may be written by whom. Colour 0: nobody writes any more. -/
import Derived.Test.YtblhpikljhholaaNice39
set_option linter.unusedVariables false
set_option linter.unusedSimpArgs false
namespace Go.Proofs.Ytblhpikljhholaa.NICE
open Go Go.RowKit

variable {P : Program} {E : Env P drStatic}

structure Gh where
  h : NHeap
  col : Nat → Nat

/-- only blocks of the colour c are changed; new ones may come -/
structure Stp (c : Nat) (G G' : Gh) : Prop where
  next : G.h.next ≤ G'.h.next
  col : ∀ b, b < G.h.next → G'.col b = G.col b
  get : ∀ {b o}, G.h.get b = some o → G.col b ≠ c → G'.h.get b = some o

theorem Stp.refl (c : Nat) (G : Gh) : Stp c G G := ⟨Nat.le_refl _, fun _ _ => rfl, fun h _ => h⟩
theorem Stp.trans {c : Nat} {G G' G'' : Gh} (a : Stp c G G') (b : Stp c G' G'') : Stp c G G'' :=
  ⟨Nat.le_trans a.next b.next, fun x hx => by rw [b.col x (Nat.lt_of_lt_of_le hx a.next), a.col x hx], fun {x o} h hc => b.get (a.get h hc) (by rw [a.col x (NHeap.get_lt h)]; exact hc)⟩

/-- new blocks get these colours -/
def newCol (h : NHeap) (col : Nat → Nat) (f : Nat → Nat) : Nat → Nat := fun b => if b < h.next then col b else f b
theorem newCol_old {h : NHeap} {col f : Nat → Nat} {b : Nat} (hb : b < h.next) : newCol h col f b = col b := by simp [newCol, hb]
theorem newCol_new {h : NHeap} {col f : Nat → Nat} {b : Nat} (hb : h.next ≤ b) : newCol h col f b = f b := by simp [newCol, Nat.not_lt.2 hb]

theorem Stp.of_upd {c : Nat} {G : Gh} {fp : List Nat} {h' : NHeap} (u : Upd fp G.h h') (hc : ∀ b ∈ fp, b < G.h.next → G.col b = c) (f : Nat → Nat) : Stp c G ⟨h', newCol G.h G.col f⟩ :=
  ⟨u.next, fun b hb => newCol_old hb, fun {b o} h hn => u.get h fun hm => hn (hc b hm (NHeap.get_lt h))⟩
theorem Stp.of_ext (c : Nat) {G : Gh} {h' : NHeap} (e : Ext G.h h') (f : Nat → Nat) : Stp c G ⟨h', newCol G.h G.col f⟩ :=
  ⟨e.next, fun b hb => newCol_old hb, fun h _ => e.get h⟩

/-- a slice that nobody writes any more: so many elements of sz cells -/
def Fz (G : Gh) (sz : Nat) (v : NVal) (n : Nat) (cs : List NVal) : Prop :=
  cs.length = n * sz ∧ ∃ bo c x, v = .slice bo n c x ∧ n ≤ c ∧ (x = none ∨ x = some sz) ∧ (n = 0 ∨ ∃ b o all m, bo = some (b, o) ∧ G.h.get b = some (.cells all m) ∧ G.col b = 0 ∧ (all.drop o).take (n * sz) = cs)
theorem Fz.step {c : Nat} {G G' : Gh} (s : Stp c G G') (hc : c ≠ 0) {sz v n cs} (f : Fz G sz v n cs) : Fz G' sz v n cs := by
  obtain ⟨h0, bo, c', x, h1, h2, h3, h4⟩ := f
  refine ⟨h0, bo, c', x, h1, h2, h3, ?_⟩
  rcases h4 with h4 | ⟨b, o, all, m, a1, a2, a3, a4⟩
  · exact .inl h4
  · exact .inr ⟨b, o, all, m, a1, s.get a2 (by rw [a3]; exact Ne.symm hc), by rw [s.col b (NHeap.get_lt a2)]; exact a3, a4⟩
theorem Fz.nil (G : Gh) (sz : Nat) : Fz G sz (.slice none 0 0 none) 0 [] := ⟨by simp, none, 0, none, rfl, Nat.le_refl _, .inl rfl, .inl rfl⟩

/-- a slice of one's own, of elements of one cell, that may be written in place, grow and shrink -/
def Vec (G : Gh) (c : Nat) (v : NVal) (cs : List NVal) : Prop :=
  (v = .slice none 0 0 none ∧ cs = []) ∨ ∃ b cap x q all, v = .slice (some (b, 0)) cs.length cap x ∧ (x = none ∨ x = some 1) ∧ G.h.get b = some (.cells all (.own q)) ∧ G.col b = c ∧ cs.length ≤ cap ∧ cap ≤ all.length ∧ all.take cs.length = cs ∧ 0 < cap
theorem Vec.step {c d : Nat} {G G' : Gh} (s : Stp d G G') (hc : c ≠ d) {v cs} (f : Vec G c v cs) : Vec G' c v cs := by
  rcases f with f | ⟨b, cap, x, q, all, h1, h2, h3, h4, h5⟩
  · exact .inl f
  · exact .inr ⟨b, cap, x, q, all, h1, h2, s.get h3 (by rw [h4]; exact hc), by rw [s.col b (NHeap.get_lt h3)]; exact h4, h5⟩
theorem Vec.upd {c : Nat} {G : Gh} {fp : List Nat} {h' : NHeap} (u : Upd fp G.h h') {v cs} (f : Vec G c v cs) (hd : ∀ b ∈ NICE.blk v, b ∉ fp) (g : Nat → Nat) : Vec ⟨h', newCol G.h G.col g⟩ c v cs := by
  rcases f with f | ⟨b, cap, x, q, all, rfl, h2, h3, h4, h5⟩
  · exact .inl f
  · exact .inr ⟨b, cap, x, q, all, rfl, h2, u.get h3 (hd b (by simp [NICE.blk])), by show newCol G.h G.col g b = c; rw [newCol_old (NHeap.get_lt h3)]; exact h4, h5⟩
theorem Vec.veq {c : Nat} {G : Gh} {v cs} (f : Vec G c v cs) : veq 50 v v = true := by
  rcases f with ⟨rfl, _⟩ | ⟨b, cap, x, q, all, rfl, _⟩
  · rfl
  · rw [veq_slice]; simp
theorem Vec.ne_map {c : Nat} {G : Gh} {v cs} (f : Vec G c v cs) {mb : Nat} {es} (hm : G.h.get mb = some (.map es)) : mb ∉ NICE.blk v := by
  rcases f with ⟨rfl, _⟩ | ⟨b, cap, x, q, all, rfl, h2, h3, h4, h5⟩
  · simp [NICE.blk]
  · intro hb
    simp [NICE.blk] at hb
    subst hb
    rw [hm] at h3; cases h3
theorem Vec.blk {G : Gh} {c v cs} (f : Vec G c v cs) : ∀ b ∈ blk v, b < G.h.next ∧ G.col b = c := by
  rcases f with ⟨rfl, _⟩ | ⟨b, cap, x, q, all, rfl, h2, h3, h4, h5⟩
  · simp [NICE.blk]
  · intro d hd
    simp [NICE.blk] at hd
    subst hd
    exact ⟨NHeap.get_lt h3, h4⟩

theorem set_take_len {α : Type} (l : List α) (n : Nat) (v : α) (h : n < l.length) : (l.set n v).take (n + 1) = l.take n ++ [v] := by
  apply List.ext_getElem?
  intro i
  rcases Nat.lt_trichotomy i n with hi | hi | hi
  · rw [List.getElem?_take_of_lt (by omega), List.getElem?_set_ne (by omega), List.getElem?_append_left (by simp; omega), List.getElem?_take_of_lt hi]
  · subst hi
    rw [List.getElem?_take_of_lt (by omega), List.getElem?_set_self h, List.getElem?_append_right (by simp; omega), List.length_take]
    simp [show min i l.length = i by omega]
  · rw [List.getElem?_eq_none (by simp; omega), List.getElem?_eq_none (by simp; omega)]

/-- one more element at its end -/
theorem Vec.push {st e by_ : Nat} {z : NVal} (hu : P.underlying st = some (.slice e)) (hs : szOf P e = some 1) (hb : bytesOf P e = some by_) (hz : zeroOf P e = some z) (hzl : z.cells.length = 1)
    {G : Gh} {c : Nat} {v : NVal} {cs : List NVal} (g : Vec G c v cs) {h : NHeap} {H : NHeap} (U : Upd [] G.h H) {nb o cc : Nat} {y : Option Nat} {all : List NVal} {m : Own} {a : NVal} (hn : H.get nb = some (.cells all m)) (hnew : (all.drop o).take 1 = [a]) (ha : a.one = true) (hone : allOne cs = true)
    (h1 : cs.length + 1 ≤ 1099511627776) (h2 : (cs.length + 1) * by_ ≤ 1099511627776) (hzo : allOne z.cells = true := by rfl) :
    ∃ v' h', nappend P st st v (.slice (some (nb, o)) 1 cc y) H = some (v', h') ∧ H.next ≤ h'.next ∧ Upd (NICE.blk v) H h' ∧ (∀ b ∈ NICE.blk v', b ∈ NICE.blk v ∨ H.next ≤ b) ∧ ∀ f : Nat → Nat, (∀ b, H.next ≤ b → f b = c) → Vec ⟨h', newCol G.h G.col f⟩ c v' (cs ++ [a]) := by
  have hoc : o + 1 ≤ all.length := by
    have := congrArg List.length hnew
    simp only [List.length_take, List.length_drop, List.length_singleton] at this
    omega
  have happ : appended P e 1 st (.slice (some (nb, o)) 1 cc y) H = some (1, [a]) := by
    unfold appended
    rw [hu]
    simp only [nlenOf, srcCells, Nat.one_mul, hn]
    rw [if_neg (by omega)]
    simp only [Nat.le_refl, true_and, hoc, if_true, hnew]
  have hao : allOne [a] = true := by simp [allOne, ha]
  rcases g with ⟨rfl, rfl⟩ | ⟨b, cap, x, q, ol, rfl, hx, hg, hcol, hlc, hca, htk, hcp⟩
  · refine ⟨.slice (some (H.next, 0)) 1 1 (some 1), H.alloc (.cells [a] (.own (some (e, 0)))), ?_, by simp, (Upd.refl _ _).alloc _, by simp [NICE.blk], fun f hf => .inr ⟨H.next, 1, some 1, some (e, 0), [a], rfl, .inr rfl, by simp [NHeap.get_alloc], ?_, by simp, by simp, by simp, by decide⟩⟩
    · unfold nappend
      rw [hu]
      simp only [hs, hb, hz, happ, hzl, hzo, List.length_singleton, Nat.one_mul, hao, true_and, if_true, Nat.lt_irrefl]
      rw [if_pos (by decide), if_pos ⟨h1, h2⟩]
      rfl
    · show newCol G.h G.col f H.next = c
      rw [newCol_new U.next]; exact hf _ (Nat.le_refl _)
  · have hgH := U.get hg (by simp)
    have hlen : cs.length ≤ ol.length := by omega
    by_cases hfit : cs.length + 1 ≤ cap
    · refine ⟨.slice (some (b, 0)) (cs.length + 1) cap x, H.set b (.cells (setRange ol cs.length [a]) (.own q)), ?_, Nat.le_refl _, (Upd.refl _ _).set (.inl (by simp [NICE.blk])) _, by simp [NICE.blk], fun f hf => .inr ⟨b, cap, x, q, ol.set cs.length a, by simp, hx, ?_, ?_, by simpa using hfit, by simpa using hca, ?_, hcp⟩⟩
      · unfold nappend
        rw [hu]
        simp only [hs, hb, hz, happ, hzl, hzo, List.length_singleton, Nat.one_mul, hao, true_and, if_true]
        rw [if_pos (by decide), if_pos ⟨h1, h2⟩, if_neg (by decide), if_pos hfit]
        simp only [hgH, Nat.mul_one, Nat.zero_add]
        rw [if_pos (by omega)]
      · rw [NHeap.get_set_same (NHeap.get_lt hgH)]
        congr 2
        apply List.ext_getElem?
        intro i
        rw [setRange_get? _ _ _ _ (by simp; omega), List.getElem?_set]
        by_cases hi : i < cs.length
        · rw [if_pos hi, if_neg (by omega)]
        · rw [if_neg hi]
          by_cases hi2 : cs.length = i
          · subst hi2; simp; omega
          · rw [if_neg (by simp; omega), if_neg hi2]
      · show newCol G.h G.col f b = c
        rw [newCol_old (NHeap.get_lt hg)]; exact hcol
      · rw [List.length_append, List.length_singleton, set_take_len _ _ _ (by omega), htk]
    · have hsame : cap = cs.length := by omega
      subst hsame
      rcases hx with rfl | rfl
      · refine ⟨.slice (some (H.next, 0)) (cs.length + 1) (cs.length + 1) (some 1), H.alloc (.cells (cs ++ [a]) (.own (some (e, 0)))), ?_, by simp, (Upd.refl _ _).alloc _, by simp [NICE.blk], fun f hf => .inr ⟨H.next, cs.length + 1, some 1, some (e, 0), cs ++ [a], by simp, .inr rfl, by simp [NHeap.get_alloc], ?_, by simp, by simp, by rw [List.take_length], by omega⟩⟩
        · unfold nappend
          rw [hu]
          simp only [hs, hb, hz, happ, hzl, hzo, List.length_singleton, Nat.one_mul, hao, true_and, if_true]
          rw [if_pos (by decide), if_pos ⟨h1, h2⟩, if_neg (by decide), if_neg (by omega)]
          have hsrc : srcCells 1 cs.length H (.slice (some (b, 0)) cs.length cs.length none) = some cs := by
            unfold srcCells
            simp only [Nat.mul_one]
            rw [if_neg (by omega), hgH]
            simp only [Nat.le_refl, Nat.zero_add, true_and, List.drop_zero]
            rw [if_pos (by omega), htk]
          rw [hsrc]
          simp only [hone, if_true]
        · show newCol G.h G.col f H.next = c
          rw [newCol_new U.next]; exact hf _ (Nat.le_refl _)
      · refine ⟨.slice (some (H.next, 0)) (cs.length + 1) (cs.length + 1) (some 1), (H.set b .dead).alloc (.cells (cs ++ [a]) (.own (regrown 0 e q))), ?_, by simp, ((Upd.refl _ _).set (.inl (by simp [NICE.blk])) _).alloc _, by simp [NICE.blk], fun f hf => .inr ⟨H.next, cs.length + 1, some 1, regrown 0 e q, cs ++ [a], by simp, .inr rfl, by simp [NHeap.get_alloc], ?_, by simp, by simp, by rw [List.take_length], by omega⟩⟩
        · unfold nappend
          rw [hu]
          simp only [hs, hb, hz, happ, hzl, hzo, List.length_singleton, Nat.one_mul, hao, true_and, if_true]
          rw [if_pos (by decide), if_pos ⟨h1, h2⟩, if_neg (by decide), if_neg (by omega)]
          simp only [hgH, Nat.mul_one, Nat.zero_add, List.drop_zero]
          rw [if_pos (by omega), if_pos (by omega), htk]
        · show newCol G.h G.col f H.next = c
          rw [newCol_new U.next]; exact hf _ (Nat.le_refl _)

/-! ### a method called through an interface -/
theorem do_invoke (F : CallF) (ρ : Rho) (h : NHeap) (r m args tys) : doK P F ρ (.call ⟨.invoke r m, args, tys⟩) h = callK (ncall P ρ h ⟨.invoke r m, args, tys⟩) F h := rfl
theorem es_invoke (ρ : Rho) (h : NHeap) (r m args tys) : eStep P ρ h (.call ⟨.invoke r m, args, tys⟩) = none := rfl
/-- which function a method's name comes to -/
def invK (P : Program) (h : NHeap) (name : String) (r : Option NVal) (as : Option (List NVal)) : Option (FuncId × List NVal) := match r with
    | some (.iface t v) => (match as, P.info? t with
      | some as, some i => (match i.methods.find? (·.name == name) with
        | some m => if m.path.isEmpty then (match m.func, P.underlying t with
          | some (f, true), some (.pointer _) => some (f, v :: as)
          | some (f, false), some (.pointer e) => (match v with
            | .ptr (some a) => (match nload P e a h with | some u => some (f, u :: as) | none => none)
            | _ => none)
          | _, _ => none) else none
        | none => none)
      | _, _ => none)
    | _ => none
theorem ncall_inv (ρ : Rho) (h : NHeap) (r : Operand) (m : String) (args : Array Operand) (tys : Array TypeId) : ncall P ρ h ⟨.invoke r m, args, tys⟩ = invK P h m (ρ r) (evs ρ args.toList) := rfl
def valK (f : Option NVal) (as : Option (List NVal)) : Option (FuncId × List NVal) := match f with
    | some (.func (.func g) first cap) => (match as with | some as => some (g, first ++ as ++ cap) | none => none)
    | _ => none
theorem ncall_value (ρ : Rho) (h : NHeap) (f : Operand) (args : Array Operand) (tys : Array TypeId) : ncall P ρ h ⟨.value f, args, tys⟩ = valK (ρ f) (evs ρ args.toList) := rfl
theorem valK_some (g : FuncId) (first cap as : List NVal) : valK (some (.func (.func g) first cap)) (some as) = some (g, first ++ as ++ cap) := rfl
/-- methods of a pointer -/
theorem invK_ptr {h : NHeap} {m : String} {t : TypeId} {f : FuncId} (hm : ∀ (v : NVal) (as : List NVal), (match P.info? t with
      | some i => (match i.methods.find? (·.name == m) with
        | some mm => if mm.path.isEmpty then (match mm.func, P.underlying t with
          | some (f, true), some (.pointer _) => some (f, v :: as)
          | _, _ => none) else none
        | none => none)
      | none => none) = some (f, v :: as)) (v : NVal) (as : List NVal) : invK P h m (some (.iface t v)) (some as) = some (f, v :: as) := by
  have := hm v as
  unfold invK
  simp only
  cases hi : P.info? t with
  | none => rw [hi] at this; cases this
  | some i =>
    rw [hi] at this
    simp only at this ⊢
    cases hmm : i.methods.find? (·.name == m) with
    | none => rw [hmm] at this; cases this
    | some mm =>
      rw [hmm] at this
      simp only at this ⊢
      by_cases hp : mm.path.isEmpty = true
      · rw [if_pos hp] at this ⊢
        split at this
        · rename_i e1 e2
          rw [e1, e2]
          exact this
        · cases this
      · rw [if_neg hp] at this; cases this
theorem invK_val {m : String} {t e : TypeId} {f : FuncId} (hm : ∀ (u : NVal) (as : List NVal), (match P.info? t with
      | some i => (match i.methods.find? (·.name == m) with
        | some mm => if mm.path.isEmpty then (match mm.func, P.underlying t with
          | some (f, false), some (.pointer e') => if e' = e then some (f, u :: as) else none
          | _, _ => none) else none
        | none => none)
      | none => none) = some (f, u :: as)) {h : NHeap} (a : Nat × Nat) (as : List NVal) {u : NVal} (hu : nload P e a h = some u) : invK P h m (some (.iface t (.ptr (some a)))) (some as) = some (f, u :: as) := by
  have := hm u as
  unfold invK
  simp only
  cases hi : P.info? t with
  | none => rw [hi] at this; cases this
  | some i =>
    rw [hi] at this
    simp only at this ⊢
    cases hmm : i.methods.find? (·.name == m) with
    | none => rw [hmm] at this; cases this
    | some mm =>
      rw [hmm] at this
      simp only at this ⊢
      by_cases hp : mm.path.isEmpty = true
      · rw [if_pos hp] at this ⊢
        split at this
        · rename_i e' e1 e2
          rw [e1, e2]
          simp only
          split at this
          · rename_i he
            subst he
            rw [hu]
            exact this
          · cases this
        · cases this
      · rw [if_neg hp] at this; cases this
theorem do_mapUpdate (F : CallF) (ρ : Rho) (h : NHeap) (t m k v) : doK P F ρ (.mapUpdate t m k v) h = (match ρ m, ρ k, ρ v with
    | some m, some k, some v => (match nmapUpdate P t m k v h with | some h' => some (nundef, h') | none => none)
    | _, _, _ => none) := rfl
theorem do_delete (F : CallF) (ρ : Rho) (h : NHeap) (m k : Operand) (t t' : TypeId) : doK P F ρ (.call ⟨.builtin .delete, #[m, k], #[t, t']⟩) h = (match ρ m, ρ k with | some m, some k => ndelete P t m k h | _, _ => none) := rfl
theorem do_copy (F : CallF) (ρ : Rho) (h : NHeap) (d s : Operand) (t t' : TypeId) : doK P F ρ (.call ⟨.builtin .copy, #[d, s], #[t, t']⟩) h = (match ρ d, ρ s with | some d, some s => ncopy P t d s h | _, _ => none) := rfl
theorem es_lookup (ρ : Rho) (h : NHeap) (t m k ok) : eStep P ρ h (.lookup t m k ok) = readE (bind2 (ρ m) (ρ k) fun u v => nlookup P t u v ok h) := by
  have e1 : pureOp P ρ (.lookup t m k ok) = none := rfl
  have e2 : readOp P ρ h (.lookup t m k ok) = bind2 (ρ m) (ρ k) fun u v => nlookup P t u v ok h := by rw [← readK_eq]; rfl
  unfold eStep readE
  rw [e1, e2]
theorem es_typeAssert (ρ : Rho) (h : NHeap) (x t d ok) : eStep P ρ h (.typeAssert x t d ok) = valE (bind1 (ρ x) fun u => nassert P u d ok) := es_of_pure ρ h rfl
theorem es_mapUpdate (ρ : Rho) (h : NHeap) (t m k v) : eStep P ρ h (.mapUpdate t m k v) = none := rfl
theorem es_delete (ρ : Rho) (h : NHeap) (args tys) : eStep P ρ h (.call ⟨.builtin .delete, args, tys⟩) = none := rfl
theorem es_makeMap (ρ : Rho) (h : NHeap) (t r) : eStep P ρ h (.makeMap t r) = none := rfl
theorem newOp_map (ρ : Rho) (t) : newOp P ρ (.makeMap t none) = some (.map [], fun b => .map (some b)) := rfl
theorem floats_map (es : List (NVal × NVal)) (mk : Nat → NVal) : floats (some (.map es, mk)) = none := rfl

/-- a map of numbers to nothing -/
def mp (ks : List Int) : List (NVal × NVal) := ks.map fun k => (.int .i64 k, .agg [])
theorem nkeyIn_mp (x : Int) : ∀ ks : List Int, (x ∉ ks ∧ nkeyIn (.int .i64 x) (mp ks) = some none) ∨ (∃ i, ks[i]? = some x ∧ nkeyIn (.int .i64 x) (mp ks) = some (some (i, .agg [])))
  | [] => .inl ⟨by simp, rfl⟩
  | k :: ks => by
    have e : nkeyIn (.int .i64 x) (mp (k :: ks)) = if x = k then some (some (0, .agg [])) else bumpIx (nkeyIn (.int .i64 x) (mp ks)) := by
      show (if IntKind.i64 = IntKind.i64 then (if x = k then some (some (0, NVal.agg [])) else bumpIx (nkeyIn (.int .i64 x) (mp ks))) else none) = _
      rw [if_pos rfl]
    rw [e]
    by_cases h : x = k
    · rw [if_pos h]
      exact .inr ⟨0, by simp [h], rfl⟩
    · rw [if_neg h]
      rcases nkeyIn_mp x ks with ⟨h1, h2⟩ | ⟨i, h1, h2⟩
      · rw [h2]
        exact .inl ⟨by simp [h, h1], rfl⟩
      · rw [h2]
        exact .inr ⟨i + 1, by simpa using h1, rfl⟩
theorem mp_append (a b : List Int) : mp (a ++ b) = mp a ++ mp b := by simp [mp]
theorem mp_erase (ks : List Int) (i : Nat) : (mp ks).eraseIdx i = mp (ks.eraseIdx i) := by
  induction ks generalizing i with
  | nil => rfl
  | cons k ks ih =>
    cases i with
    | zero => rfl
    | succ i => simp only [mp, List.map_cons, List.eraseIdx_cons_succ] at ih ⊢; rw [ih]
attribute [go_sem] kIface do_mapUpdate do_delete do_copy es_lookup es_typeAssert es_mapUpdate es_delete es_makeMap newOp_map floats_map nassert nassert'
attribute [go_sem] do_invoke es_invoke ncall_inv ncall_value valK_some
end Go.Proofs.Ytblhpikljhholaa.NICE
