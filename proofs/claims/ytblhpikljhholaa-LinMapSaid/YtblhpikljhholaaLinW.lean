/-
  Bytes, Shape, Lin, Lin2, Lin3, Lin4, Lin5, as one text. Proved step by step; no conditions beside what is said.
-/
import Derived.Test.YtblhpikljhholaaFw
import Derived.Test.YtblhpikljhholaaNice42
namespace Go.Proofs.Ytblhpikljhholaa.S
open Go Go.RowKit Go.Proofs.Ytblhpikljhholaa.NICE
set_option maxRecDepth 100000
set_option linter.unusedSimpArgs false
set_option linter.unusedVariables false

theorem index_str {P : Program} {t : TypeId} (hu : P.underlying t = some .string) (s : List UInt8) (k) (i : Nat) (c : UInt8) (hc : s[i]? = some c) : nindex P t (.str s) (.int k (i : Int)) = some (.int .u8 c.toNat) := by
  simp [nindex, hu, hc]
theorem str_add {P : Program} (t : TypeId) (x y : List UInt8) (h : x.length + y.length ≤ 1000000) : nbin P .add t (.str x) (.str y) = some (.str (x ++ y)) := by
  simp [nbin, nStrOp]; omega

theorem emod_tmod (n m : Int) (hm : 0 < m) : n % m = if n.tmod m < 0 then n.tmod m + m else n.tmod m := by
  have h1 := Int.tmod_add_mul_tdiv n m
  have h2 := Int.tmod_lt_of_pos n hm
  have h3 := Int.lt_tmod_of_pos n hm
  have h4 : n % m = n.tmod m % m := by
    conv => lhs; rw [← h1]
    rw [Int.add_mul_emod_self_left]
  rw [h4]
  split
  · rename_i h
    rw [← Int.add_emod_right, Int.emod_eq_of_lt (by omega) (by omega)]
  · exact Int.emod_eq_of_lt (by omega) (by omega)

theorem within_K (n lo hi : Int) (h : NHeap) (h0 : -2 ^ 42 < lo) (h1 : lo ≤ hi) (h2 : hi < 2 ^ 42) : K env 6 [.int .i64 n, .int .i64 lo, .int .i64 hi] h = some (.int .i64 (lo + n % (hi - lo + 1)), h) := by
  have e1 : IntKind.i64.wrap (hi - lo) = hi - lo := wrap_i64_small (by omega) (by omega)
  have e2 : IntKind.i64.wrap (hi - lo + 1) = hi - lo + 1 := wrap_i64_small (by omega) (by omega)
  have e3 : hi - lo + 1 ≠ 0 := by omega
  have e4 := emod_tmod n (hi - lo + 1) (by omega)
  have b1 := Int.tmod_lt_of_pos n (show 0 < hi - lo + 1 by omega)
  have b2 := Int.lt_tmod_of_pos n (show 0 < hi - lo + 1 by omega)
  rw [k6 _ _ (by simp)]
  simp only [bodyOf, Option.getD_some, go_sem, seval, Try.f6, e1, e2, bin_rem _ _ _ _ e3]
  generalize n.tmod (hi - lo + 1) = r at *
  by_cases hr : r < 0
  · have w1 : IntKind.i64.wrap (r + hi) = r + hi := wrap_i64_small (by omega) (by omega)
    have w2 : IntKind.i64.wrap (r + hi - lo) = r + hi - lo := wrap_i64_small (by omega) (by omega)
    have w3 : IntKind.i64.wrap (r + hi - lo + 1) = r + hi - lo + 1 := wrap_i64_small (by omega) (by omega)
    have w4 : IntKind.i64.wrap (lo + (r + hi - lo + 1)) = lo + (r + hi - lo + 1) := wrap_i64_small (by omega) (by omega)
    have w5 : lo + n % (hi - lo + 1) = lo + (r + hi - lo + 1) := by rw [e4, if_pos hr]; omega
    simp only [hr, go_sem, seval, w1, w2, w3, w4, w5]
  · have w4 : IntKind.i64.wrap (lo + r) = lo + r := wrap_i64_small (by omega) (by omega)
    have w5 : lo + n % (hi - lo + 1) = lo + r := by rw [e4, if_neg hr]
    simp only [hr, go_sem, seval, w4, w5]
end Go.Proofs.Ytblhpikljhholaa.S

namespace Go.Proofs.Ytblhpikljhholaa.S
open Go Go.RowKit Go.Proofs.Ytblhpikljhholaa.NICE
set_option maxRecDepth 100000
set_option linter.unusedSimpArgs false
set_option linter.unusedVariables false
namespace shape

abbrev Ent := List UInt8 × Int
def entC (l : List Ent) : List NVal := l.flatMap fun e => [.str e.1, .int .i64 e.2]
theorem entC_len : ∀ l : List Ent, (entC l).length = l.length * 2
  | [] => rfl
  | e :: l => by
    have := entC_len l
    simp only [entC, List.flatMap_cons, List.length_append, List.length_cons, List.length_nil] at this ⊢
    omega
theorem entC_append (l m : List Ent) : entC (l ++ m) = entC l ++ entC m := by simp [entC]
theorem entC_cons (e : Ent) (l : List Ent) : entC (e :: l) = .str e.1 :: .int .i64 e.2 :: entC l := by simp [entC]
theorem entC_one : ∀ l : List Ent, allOne (entC l) = true
  | [] => rfl
  | e :: l => by rw [entC_cons]; simp only [allOne, NVal.one, entC_one l, Bool.and_self]
theorem entC_at : ∀ (l : List Ent) (i : Nat) (e : Ent), l[i]? = some e → ((entC l).drop (i * 2)).take 2 = [.str e.1, .int .i64 e.2]
  | [], i, o, h => by simp at h
  | x :: l, 0, o, h => by simp at h; subst h; simp [entC]
  | x :: l, i + 1, o, h => by
    have := entC_at l i o (by simpa using h)
    rw [← this, entC_cons, Nat.succ_mul]
    rfl
theorem entC_drop : ∀ (l : List Ent) (i : Nat), (entC l).drop (i * 2) = entC (l.drop i)
  | [], i => by simp [entC]
  | x :: l, 0 => by simp
  | x :: l, i + 1 => by rw [entC_cons, Nat.succ_mul]; exact entC_drop l i
theorem entC_take : ∀ (l : List Ent) (i : Nat), (entC l).take (i * 2) = entC (l.take i)
  | [], i => by simp [entC]
  | x :: l, 0 => by simp [entC]
  | x :: l, i + 1 => by
    rw [entC_cons, Nat.succ_mul]
    show NVal.str x.1 :: NVal.int .i64 x.2 :: (entC l).take (i * 2) = entC (x :: l.take i)
    rw [entC_cons, entC_take l i]

/-- a slice of entries -/
abbrev Ents (h : NHeap) (v : NVal) (l : List Ent) : Prop := Sl h 2 v l.length (entC l)

/-- the first entry whose term is not less -/
def seek : List Ent → List UInt8 → Nat
  | [], _ => 0
  | e :: l, t => if Op.bytesLess e.1 t then seek l t + 1 else 0
theorem seek_le : ∀ (l : List Ent) (t : List UInt8), seek l t ≤ l.length
  | [], _ => Nat.le_refl _
  | e :: l, t => by
    have := seek_le l t
    unfold seek
    split <;> simp <;> omega

noncomputable def lbS : Code := inC (inC (atC (bodyOf Try.f7) 2))

theorem loopS (hA : NHeap) (v : NVal) (l : List Ent) (hs : Ents hA v l) (hl : l.length < 2 ^ 40) (t : List UInt8) (Q : Out → Prop)
    (hQ1 : ∀ (h : NHeap) (F : Fr), Ext hA h → seek l t < l.length → F 4 = .int .i64 (seek l t : Nat) → Q (some (.ret, toL 22 F, h)))
    (hQ2 : ∀ (h : NHeap) (F : Fr), Ext hA h → seek l t = l.length → F 0 = v → Q (some (.exit 0, toL 22 F, h))) :
    ∀ (f i : Nat) (h : NHeap) (F : Fr), i + f = l.length → i + seek (l.drop i) t = seek l t → Ext hA h → F 0 = v → F 1 = .str t → F 7 = v → F 8 = .int .i64 l.length → F 9 = .int .i64 i → Q (C env (.loop lbS) (toL 22 F) h) := by
  intro f
  induction f with
  | zero =>
    intro i h F hi hk hE f0 f1 f7 f8 f9
    have : i = l.length := by omega
    subst this
    rw [S_loop]
    conv => arg 1; arg 2; arg 2; simp only [lbS, bodyOf, Option.getD_some, atC, seqL, inC, elC, List.nil_append, List.cons_append, List.getElem?_cons_succ, List.getElem?_cons_zero, Try.f7]
    simp only [go_sem, seval, f8, f9]
    refine hQ2 h _ hE ?_ (by simp only [go_sem, seval, f0])
    rw [← hk, List.drop_length]; rfl
  | succ f ih =>
    intro i h F hi hk hE f0 f1 f7 f8 f9
    obtain ⟨e, he⟩ : ∃ e, l[i]? = some e := ⟨l[i]'(by omega), List.getElem?_eq_getElem (by omega)⟩
    obtain ⟨b, o, c, x, all, m, rfl, hc, hx, gA, hcs, hle⟩ := hs.at (by omega)
    have g := hE.get gA
    have row := (seg_at hcs (show i < l.length by omega)).trans (entC_at l i e he)
    have i0 : (0 : Int) ≤ (i : Int) := by omega
    have i1 : (i : Int) < (l.length : Int) := by omega
    have i2 : o + i * 2 + 2 ≤ all.length := by omega
    have w1 : IntKind.i64.wrap ((i : Int) + 1) = ((i + 1 : Nat) : Int) := by rw [wrap_i64_small (by omega) (by omega)]; omega
    have nb : ¬ b = h.next := by have := NHeap.get_lt g; omega
    have hd : l.drop i = e :: l.drop (i + 1) := by
      rw [List.drop_eq_getElem_cons (by omega)]
      congr 1
      rw [List.getElem?_eq_getElem (by omega)] at he
      exact Option.some.inj he
    rw [S_loop]
    conv => arg 1; arg 2; arg 2; simp only [lbS, bodyOf, Option.getD_some, atC, seqL, inC, elC, List.nil_append, List.cons_append, List.getElem?_cons_succ, List.getElem?_cons_zero, Try.f7]
    by_cases hb : Op.bytesLess e.1 t = true
    · simp only [go_sem, seval, f0, f1, f7, f8, f9, i0, i1, i2, g, row, nb, hb, w1]
      refine ih (i + 1) _ _ (by omega) ?_ ?_ (by simp only [go_sem, seval, f0]) (by simp only [go_sem, seval, f1]) (by simp only [go_sem, seval, f7]) (by simp only [go_sem, seval, f8]) (by simp only [go_sem, seval])
      · rw [← hk, hd, seek, if_pos hb]; omega
      · exact hE.trans (((Ext.refl h).alloc _).set (Nat.le_refl _) _)
    · have hb' : Op.bytesLess e.1 t = false := by simpa using hb
      have hsk : seek l t = i := by rw [← hk, hd, seek, if_neg hb]; omega
      simp only [go_sem, seval, f0, f1, f7, f8, f9, i0, i1, i2, g, row, nb, hb']
      refine hQ1 _ _ (hE.trans (((Ext.refl h).alloc _).set (Nat.le_refl _) _)) (by omega) ?_
      simp only [go_sem, seval, hsk]

theorem Seek_K (h : NHeap) (v : NVal) (l : List Ent) (hs : Ents h v l) (hl : l.length < 2 ^ 40) (t : List UInt8) : ∃ h', K env 7 [v, .str t] h = some (.int .i64 (seek l t : Nat), h') ∧ Ext h h' := by
  obtain ⟨bo, c, x, hv⟩ := hs.form
  rw [k7 _ _ (by simp)]
  simp only [bodyOf, Option.getD_some, go_sem, seval, Try.f7, hv]
  have key := fun rest => loopS h v l hs hl t (fun r => ∃ h', outF Try.prog [.tmp 4] (thenD env (blockC 0 r) rest) = some (.int .i64 (seek l t : Nat), h') ∧ Ext h h')
  refine key _ ?_ ?_ l.length 0 h _ (by omega) (by simp) (Ext.refl _) ?_ ?_ ?_ ?_ ?_
  · intro h' F hE hlt f4
    refine ⟨h', ?_, hE⟩
    simp only [go_sem, seval, f4]
  · intro h' F hE hlt f0
    refine ⟨h', ?_, hE⟩
    simp only [go_sem, seval, f0, hv, hlt]
  · simp only [go_sem, seval, hv]
  · simp only [go_sem, seval]
  · simp only [go_sem, seval, hv]
  · simp only [go_sem, seval]
  · simp only [go_sem, seval]

/-- what is put in, changed, taken out -/
def put (l : List Ent) (e : Ent) : List Ent × Int × Bool := if l[seek l e.1]?.map (·.1) = some e.1 then (l.set (seek l e.1) e, (l.getD (seek l e.1) ([], 0)).2, true) else (l.take (seek l e.1) ++ e :: l.drop (seek l e.1), 0, false)
def drop (l : List Ent) (t : List UInt8) : List Ent × Int × Bool := if l[seek l t]?.map (·.1) = some t then (l.eraseIdx (seek l t), (l.getD (seek l t) ([], 0)).2, true) else (l, 0, false)

/-- a copy: a row of its own, or an empty slice -/
theorem Clone_K (h : NHeap) (v : NVal) (l : List Ent) (hs : Ents h v l) (hl : l.length < 2 ^ 30) : ∃ v' h', K env 16 [v] h = some (v', h') ∧ Ext h h' ∧ Ents h' v' l ∧
    (l = [] → v' = .slice none 0 0 none ∨ ∃ b, h.next ≤ b ∧ v' = .slice (some (b, 0)) 0 0 none) ∧
    (l ≠ [] → v' = .slice (some (h'.next - 1, 0)) l.length l.length (some 2) ∧ h.next < h'.next ∧ h'.get (h'.next - 1) = some (.cells (entC l) (.own (some (35, 0))))) := by
  obtain ⟨bo, c, x, hv⟩ := hs.form
  have he : (.slice bo l.length c x : NVal) = v := hv.symm
  rw [k16 _ _ (by simp)]
  cases bo with
  | none =>
    have h0 : l = [] := by
      obtain ⟨_, bo', c', x', q1, _, _, q2⟩ := hs
      rw [hv] at q1
      cases q1
      rcases q2 with q2 | ⟨b, o, all, m, q, _⟩
      · exact List.eq_nil_of_length_eq_zero q2
      · cases q
    subst h0
    refine ⟨_, _, (by simp only [bodyOf, Option.getD_some, go_sem, seval, Try.f16, hv, neq, nilS]), Ext.refl _, Sl.nil _ _, fun _ => .inl rfl, fun q => absurd rfl q⟩
  | some a =>
    have hnl : neq Try.prog 6 23 v (.slice none 0 0 none) = some false := by cases hv; rfl
    by_cases h0 : l = []
    · subst h0
      have ap := nappend_none (P := Try.prog) Try.underlying23 sz35 by35 ze35 rfl (by decide) (hs.ext ((Ext.refl h).alloc (.cells [] (.own none)))) (h.next, 0) 0 0 none (by decide) (by decide)
      refine ⟨.slice (some (h.next, 0)) 0 0 none, h.alloc (.cells [] (.own none)), ?_, (Ext.refl h).alloc _, ⟨rfl, _, _, _, rfl, Nat.le_refl _, .inl rfl, .inl rfl⟩, fun _ => .inr ⟨_, Nat.le_refl _, rfl⟩, fun q => absurd rfl q⟩
      rw [hv] at hnl ap ⊢
      simp only [List.length_nil] at hnl ap ⊢
      simp only [bodyOf, Option.getD_some, go_sem, seval, Try.f16, hnl, ap]
    · have hpos : 0 < l.length := List.length_pos_iff.2 h0
      have ap := nappend_new (P := Try.prog) Try.underlying23 sz35 by35 ze35 rfl (by decide) (hs.ext ((Ext.refl h).alloc (.cells [] (.own none)))) (entC_one l) (by omega) (by omega) hpos (some (h.next, 0)) (.inr ⟨_, _, rfl⟩)
      refine ⟨_, _, ?_, (((Ext.refl h).alloc (.cells [] (.own none))).alloc (.cells (entC l) (.own (some (35, 0))))), ?_, fun q => absurd q h0, fun _ => ⟨rfl, ?_, ?_⟩⟩
      · rw [hv] at hnl ap ⊢
        simp only [bodyOf, Option.getD_some, go_sem, seval, Try.f16, hnl, ap]
      · exact Sl.whole (all := entC l) (m := .own (some (35, 0))) (by simp [NHeap.get_alloc]) (entC_len l) (Nat.le_refl _) (.inr rfl)
      · simp only [NHeap.next_alloc]; omega
      · simp [NHeap.get_alloc]

theorem entC_erase (l : List Ent) (i : Nat) (hi : i < l.length) : entC (l.eraseIdx i) = (entC l).take (i * 2) ++ (entC l).drop ((i + 1) * 2) := by
  rw [entC_take, entC_drop, ← entC_append, List.eraseIdx_eq_take_drop_succ]

/-- an element is taken out of a row, in place -/
theorem Delete_K (h : NHeap) (b : Nat) (l : List Ent) (q : Option (TypeId × Nat)) (g : h.get b = some (.cells (entC l) (.own q))) (i : Nat) (hi : i < l.length) (hl : l.length < 2 ^ 30) :
    ∃ h', K env 18 [.slice (some (b, 0)) l.length l.length (some 2), .int .i64 i, .int .i64 ((i + 1 : Nat) : Int)] h = some (.slice (some (b, 0)) (l.length - 1) l.length (some 2), h') ∧ Upd [b] h h' ∧ h'.next = h.next ∧
      h'.get b = some (.cells (entC (l.eraseIdx i) ++ [.str [], .int .i64 0]) (.own q)) := by
  obtain ⟨n, hn⟩ : ∃ n, l.length = n := ⟨_, rfl⟩
  have bl := NHeap.get_lt g
  have el := entC_len l
  rw [hn] at hi hl el ⊢
  have s0 : nslice3 Try.prog 23 (.slice (some (b, 0)) n n (some 2)) (.int .i64 (i : Int)) (.int .i64 ((i + 1 : Nat) : Int)) (.int .i64 (n : Int)) = some (.slice (some (b, if (n : Int) = (i : Int) then 0 else 0 + (i : Int).toNat * 2)) (((i + 1 : Nat) : Int) - (i : Int)).toNat ((n : Int) - (i : Int)).toNat none) := by
    unfold nslice3
    simp only [Try.underlying23, sz35]
    rw [if_pos (by omega)]
  have a1 : ¬ (i : Int) = ((i + 1 : Nat) : Int) := by omega
  have s1 : nslice Try.prog 23 (.slice (some (b, 0)) n n (some 2)) none (some (.int .i64 (i : Int))) = some (.slice (some (b, 0)) i n (some 2)) := by
    simp only [nslice, nbound, Try.underlying23, sz35]
    rw [if_pos (by omega)]
    simp only [Int.toNat_natCast, if_true]
    rw [if_pos (by omega)]
    simp
  obtain ⟨v2, e2, sl2⟩ := (Sl.whole (c := n) (x := some 2) g el (Nat.le_refl _) (.inr rfl)).drop (P := Try.prog) Try.underlying23 sz35 .i64 (i + 1) (by omega)
  obtain ⟨bo2, c2, x2, hv2⟩ := sl2.form
  obtain ⟨t1, t2⟩ := sl2.src
  have app : ∃ h1, nappend Try.prog 23 23 (.slice (some (b, 0)) i n (some 2)) v2 h = some (.slice (some (b, 0)) (n - 1) n (some 2), h1) ∧ Upd [b] h h1 ∧ h1.next = h.next ∧ ∃ w : List NVal, w.length = 2 ∧ h1.get b = some (.cells (entC (l.eraseIdx i) ++ w) (.own q)) := by
    have e0 := entC_erase l i (by omega)
    by_cases hz : n - (i + 1) = 0
    · rw [hz] at sl2
      have ap := nappend_none (P := Try.prog) Try.underlying23 sz35 by35 ze35 rfl (by decide) sl2 (b, 0) i n (some 2) (by omega) (by omega)
      refine ⟨h, by rw [ap, show n - 1 = i by omega], Upd.refl _ _, rfl, (entC l).drop (i * 2), by simp; omega, ?_⟩
      have d0 : (entC l).drop ((i + 1) * 2) = [] := List.drop_of_length_le (by omega)
      rw [g, e0, d0, List.append_nil, List.take_append_drop]
    · refine ⟨h.set b (.cells (setRange (entC l) (i * 2) ((entC l).drop ((i + 1) * 2))) (.own q)), ?_, (Upd.refl _ _).set (.inl (by simp)) _, rfl, (entC l).drop ((n - 1) * 2), by simp; omega, ?_⟩
      · have happ : appended Try.prog 35 2 23 v2 h = some (n - (i + 1), (entC l).drop ((i + 1) * 2)) := by
          unfold appended
          simp only [Try.underlying23, t1, t2]
        unfold nappend
        simp only [Try.underlying23, sz35, by35, ze35, happ]
        rw [if_pos (by decide), if_pos ⟨by rw [List.length_drop, el]; omega, allOne_drop (entC_one l) _, by omega, by omega⟩]
        simp only [g]
        rw [if_neg hz, if_pos (by omega), if_pos (by omega), show i + (n - (i + 1)) = n - 1 by omega]
        simp
      · rw [NHeap.get_set_same bl, e0]
        congr 2
        unfold setRange
        congr 1
        rw [List.length_drop, el]
        congr 1
        omega
  obtain ⟨h1, ap, U1, n1, w, wl, g1⟩ := app
  have e2' : entC (l.eraseIdx i) = entC (l.eraseIdx i) := rfl
  have el2 : (entC (l.eraseIdx i)).length = (n - 1) * 2 := by rw [entC_len, List.length_eraseIdx_of_lt (by omega)]; omega
  have s4 : nslice Try.prog 23 (.slice (some (b, 0)) (n - 1) n (some 2)) (some (.int .i64 ((n - 1 : Nat) : Int))) (some (.int .i64 (n : Int))) = some (.slice (some (b, (n - 1) * 2)) 1 1 (some 2)) := by
    simp only [nslice, nbound, Try.underlying23, sz35]
    rw [if_pos (by omega)]
    simp only [Int.toNat_natCast]
    rw [if_pos (by omega)]
    simp only [if_true]
    rw [if_pos (by omega), show n - (n - 1) = 1 by omega, Nat.zero_add]
  have cl : nclear Try.prog 23 (.slice (some (b, (n - 1) * 2)) 1 1 (some 2)) h1 = some (.tuple [], h1.set b (.cells (entC (l.eraseIdx i) ++ [.str [], .int .i64 0]) (.own q))) := by
    unfold nclear
    simp only [Try.underlying23, ze35, g1]
    rw [if_neg (by decide), if_pos ⟨by simp only [NVal.cells, List.length_append, wl, el2, List.length_cons, List.length_nil]; omega, rfl⟩]
    congr 3
    have := setRange_mid (entC (l.eraseIdx i)) w [] [.str [], .int .i64 0] wl.symm
    rw [el2, List.append_nil, List.append_nil] at this
    simp only [repeatCells, NVal.cells, List.append_nil, this]
  refine ⟨_, ?_, U1.trans ((Upd.refl _ _).set (.inl (by simp)) _), ?_, NHeap.get_set_same (by rw [n1]; exact bl)⟩
  · rw [k18 _ _ (by simp)]
    have n0 : h.next ≤ h1.next := by rw [n1]; exact Nat.le_refl _
    rw [hv2] at ap e2
    simp only [bodyOf, Option.getD_some, go_sem, seval, Try.f18, s0, a1, s1, e2, ap, n0, s4, cl]
  · exact n1

/-- Insert, in the seat's environment -/
theorem Insert_K (h : NHeap) (b n i vb vo vc c : Nat) (vx) (cs vcs : List NVal) (vq) (gb : h.get b = some (.cells cs (.own (some (35, 0))))) (gv : h.get vb = some (.cells vcs (.own vq))) (hne : b ≠ vb) (hl : cs.length = n * 2) (hi : i < n) (hn : n < 2 ^ 30)
    (hnl : ((vcs.drop vo).take 2).length = 2) (ho : allOne cs = true) (hon : allOne ((vcs.drop vo).take 2) = true) :
    K env 17 [.slice (some (b, 0)) n c (some 2), .int .i64 (i : Int), .slice (some (vb, vo)) 1 vc vx] h =
      some (.slice (some (h.next, 0)) (n + 1) (n + 1) (some 2), (h.set b .dead).alloc (.cells (cs.take (i * 2) ++ (vcs.drop vo).take 2 ++ cs.drop (i * 2)) (.own (some (35, 0))))) := by
  have : insKnown17 17 [.slice (some (b, 0)) n c (some 2), .int .i64 (Int.ofNat i), .slice (some (vb, vo)) 1 vc vx] h =
      some (.slice (some (h.next, 0)) (n + 1) (n + 1) (some 2), (h.set b .dead).alloc (.cells (cs.take (i * 2) ++ (vcs.drop vo).take 2 ++ cs.drop (i * 2)) (.own (some (35, 0))))) := by
    unfold insKnown17
    rw [if_pos rfl]
    simp only [gb, gv]
    rw [if_pos ⟨hne, trivial, trivial, hl, hi, hn, hnl, ho, hon⟩]
  show K env 17 [.slice (some (b, 0)) n c (some 2), .int .i64 (Int.ofNat i), .slice (some (vb, vo)) 1 vc vx] h = _
  exact K_known (insEnv17 this)

theorem set_entC (l : List Ent) (i : Nat) (e : Ent) (hi : i < l.length) : setRange (entC l) (i * 2) [.str e.1, .int .i64 e.2] = entC (l.set i e) := by
  unfold setRange
  rw [show i * 2 + [NVal.str e.1, .int .i64 e.2].length = (i + 1) * 2 by simp; omega, entC_take, entC_drop]
  rw [List.set_eq_take_append_cons_drop, if_pos hi, entC_append, entC_cons]
  simp

/-- the place of a term that is there, or is not -/
theorem found_iff (l : List Ent) (t : List UInt8) : (l[seek l t]?.map (·.1) = some t) ↔ ∃ e, l[seek l t]? = some e ∧ e.1 = t := by
  cases hq : l[seek l t]? with
  | none => simp
  | some e => simp

/-- a row that Clone made -/
def FRow (h : NHeap) (v : NVal) (l : List Ent) : Prop := (v = .slice none 0 0 none ∧ l = []) ∨ (∃ b, v = .slice (some (b, 0)) 0 0 none ∧ l = []) ∨
  ∃ b x q, v = .slice (some (b, 0)) l.length l.length x ∧ (x = none ∨ x = some 2) ∧ h.get b = some (.cells (entC l) (.own q)) ∧ 0 < l.length
theorem InsertEnd_K (h : NHeap) (v : NVal) (l : List Ent) (f : FRow h v l) (hl : l.length < 2 ^ 30) (vb : Nat) (e : Ent) (vq) (gv : h.get vb = some (.cells [.str e.1, .int .i64 e.2] (.own vq))) :
    ∃ h', K env 17 [v, .int .i64 l.length, .slice (some (vb, 0)) 1 1 none] h = some (.slice (some (h.next, 0)) (l.length + 1) (l.length + 1) (some 2), h') ∧ Upd (blk v) h h' ∧ h'.next = h.next + 1 ∧ Sl h' 2 (.slice (some (h.next, 0)) (l.length + 1) (l.length + 1) (some 2)) (l.length + 1) (entC (l ++ [e])) := by
  have sv : Sl h 2 (.slice (some (vb, 0)) 1 1 none) 1 [.str e.1, .int .i64 e.2] := Sl.whole gv rfl (Nat.le_refl _) (.inl rfl)
  have ap : ∃ h' q, nappend Try.prog 23 23 v (.slice (some (vb, 0)) 1 1 none) h = some (.slice (some (h.next, 0)) (l.length + 1) (l.length + 1) (some 2), h') ∧ h'.next = h.next + 1 ∧ h'.get h.next = some (.cells (entC l ++ [.str e.1, .int .i64 e.2]) (.own q)) ∧ Upd (blk v) h h' := by
    rcases f with ⟨rfl, rfl⟩ | ⟨b, rfl, rfl⟩ | ⟨b, x, q, rfl, hx, hg, hpos⟩
    · exact ⟨_, some (35, 0), nappend_new (P := Try.prog) Try.underlying23 sz35 by35 ze35 rfl (by decide) sv rfl (by decide) (by decide) (by decide) none (.inl rfl), rfl, by simp [NHeap.get_alloc, entC], (Upd.refl _ _).alloc _⟩
    · exact ⟨_, some (35, 0), nappend_new (P := Try.prog) Try.underlying23 sz35 by35 ze35 rfl (by decide) sv rfl (by decide) (by decide) (by decide) (some (b, 0)) (.inr ⟨_, _, rfl⟩), rfl, by simp [NHeap.get_alloc, entC], (Upd.refl _ _).alloc _⟩
    · exact append_one (P := Try.prog) Try.underlying23 sz35 by35 ze35 rfl (by decide) (.inr ⟨b, x, q, rfl, hx, hg, entC_len l, hpos⟩) gv rfl rfl rfl (entC_one l) (by omega) (by omega)
  obtain ⟨h', q, ap, n', g', U'⟩ := ap
  obtain ⟨bo, c, x, rfl, hbc⟩ : ∃ bo c x, v = .slice bo l.length c x ∧ nslice Try.prog 23 (.slice bo l.length c x) (some (.int .i64 (l.length : Int))) none ≠ none := by
    rcases f with ⟨rfl, rfl⟩ | ⟨b, rfl, rfl⟩ | ⟨b, x, q, rfl, hx, hg, hpos⟩
    · exact ⟨_, _, _, rfl, by simp [nslice, nbound, Try.underlying23, sz35]⟩
    · exact ⟨_, _, _, rfl, by simp [nslice, nbound, Try.underlying23, sz35]⟩
    · refine ⟨_, _, _, rfl, ?_⟩
      rcases hx with rfl | rfl
      · simp [nslice, nbound, Try.underlying23, sz35]
      · simp only [nslice, nbound, Try.underlying23, sz35]
        rw [if_pos (by omega)]
        simp only [if_true]
        split <;> simp
  obtain ⟨w, hw⟩ := Option.ne_none_iff_exists'.1 hbc
  have hne : ¬ (1 : Int) = 0 := by decide
  have kn : insKnown17 17 [.slice bo l.length c x, .int .i64 (Int.ofNat l.length), .slice (some (vb, 0)) 1 1 none] h = none := by
    unfold insKnown17
    rw [if_pos rfl]
    split
    · rename_i he
      simp only [List.cons.injEq, NVal.slice.injEq, NVal.int.injEq, true_and, and_true] at he
      obtain ⟨⟨_, e1, _⟩, e2, _⟩ := he
      split
      · rw [if_neg]
        rintro ⟨_, _, _, _, e3, _⟩
        have := Int.ofNat.inj e2
        omega
      · rfl
    · rfl
  have kn' : insKnown17 17 [.slice bo l.length c x, .int .i64 (l.length : Int), .slice (some (vb, 0)) 1 1 none] h = none := kn
  refine ⟨h', ?_, U', n', ?_⟩
  · rw [kI17 _ _ kn' (by simp)]
    simp only [bodyOf, Option.getD_some, go_sem, seval, Try.f17, hw, hne, ap]
  · have := Sl.whole (sz := 2) (n := l.length + 1) (c := l.length + 1) (x := some 2) g' (by simp [entC_len]; omega) (Nat.le_refl _) (.inr rfl)
    rw [entC_append, entC_cons]
    exact this

theorem Put_K (h : NHeap) (v : NVal) (l : List Ent) (hs : Ents h v l) (hl : l.length < 2 ^ 29) (t : List UInt8) (x : Int) :
    ∃ v' h', K env 8 [v, .agg [.str t, .int .i64 x]] h = some (.tuple [v', .int .i64 (put l (t, x)).2.1, .bool (put l (t, x)).2.2], h') ∧ Ext h h' ∧ Ents h' v' (put l (t, x)).1 ∧ ∀ b ∈ blk v', h.next ≤ b := by
  obtain ⟨H0, hH0⟩ : ∃ H, h.alloc (.cells [.str t, .int .i64 x] (.own none)) = H := ⟨_, rfl⟩
  have x0 : Ext h H0 := by rw [← hH0]; exact (Ext.refl h).alloc _
  have g0 : H0.get h.next = some (.cells [.str t, .int .i64 x] (.own none)) := by rw [← hH0]; simp [NHeap.get_alloc]
  obtain ⟨v1, h1, e1, x1, s1, c1, c2⟩ := Clone_K H0 v l (hs.ext x0) (by omega)
  obtain ⟨h2, e2, x2⟩ := Seek_K h1 v l ((hs.ext x0).ext x1) (by omega) t
  have g2 := (x2.get (x1.get g0))
  have xx : Ext h h2 := (x0.trans x1).trans x2
  have hs2 := hs.ext xx
  obtain ⟨bo, c, xq, hv⟩ := hs.form
  have hsk := seek_le l t
  obtain ⟨i, hi⟩ : ∃ i, seek l t = i := ⟨_, rfl⟩
  rw [hi] at e2 hsk
  have i0 : (0 : Int) ≤ (i : Int) := by omega
  have hveq : veq 50 v1 v1 = true := s1.veq
  rw [k8 _ _ (by simp)]
  by_cases hlt : i < l.length
  · obtain ⟨e, he⟩ : ∃ e, l[i]? = some e := ⟨l[i]'(by omega), List.getElem?_eq_getElem (by omega)⟩
    obtain ⟨b, o, c', x', all, m, hv', hc, hx, gA, hcs, hle⟩ := hs2.at (by omega)
    have row := (seg_at hcs hlt).trans (entC_at l i e he)
    have i1 : (i : Int) < (l.length : Int) := by omega
    have hne : l ≠ [] := by rintro rfl; simp at hlt
    obtain ⟨rfl, n1, gN⟩ := c2 hne
    have gN2 := x2.get gN
    obtain ⟨nb, hnb⟩ : ∃ nb, h1.next - 1 = nb := ⟨_, rfl⟩
    rw [hnb] at gN gN2 e1 hveq
    have hnb1 : nb ≠ h.next := by have := x0.next; rw [← hH0] at n1; simp only [NHeap.next_alloc] at n1; omega
    have lb2 := NHeap.get_lt gN2
    have q1 : all[o + i * 2]? = some (.str e.1) := by
      have := congrArg (·[0]?) row
      simpa using this
    have q2 : all[o + i * 2 + 1]? = some (.int .i64 e.2) := by
      have := congrArg (·[1]?) row
      simpa using this
    by_cases het : e.1 = t
    · have hp : put l (t, x) = (l.set i (t, x), e.2, true) := by
        unfold put
        rw [if_pos ((found_iff l t).2 ⟨e, by rw [hi]; exact he, het⟩), hi, List.getD_eq_getElem?_getD, he]; rfl
      have het' : (e.1 == t) = true := by simpa using het
      have st := set_entC l i (t, x) hlt
      have i3 : i * 2 + 2 ≤ (entC l).length := by rw [entC_len]; omega
      rw [hp]
      have nbb : ¬ b = nb := by
        have : b < h.next := by
          rcases hs.at (by omega) with ⟨b3, _, _, _, _, _, hv3, _, _, g3, _⟩
          rw [hv'] at hv3; cases hv3
          exact NHeap.get_lt g3
        have := x0.next
        omega
      refine ⟨.slice (some (nb, 0)) l.length l.length (some 2), h2.set nb (.cells (entC (l.set i (t, x))) (.own (some (35, 0)))), ?_, ?_, ?_, fun b hb => by simp [blk] at hb; have := x0.next; omega⟩
      · rw [hv'] at e1 e2 ⊢
        simp only [bodyOf, Option.getD_some, go_sem, seval, Try.f8, hH0, e1, g0, x1.get g0, e2, g2, i0, i1, gA, q1, q2, het', gN2, st, i3, lb2, nbb]
      · exact xx.set (by have := x0.next; omega) _
      · have := Sl.whole (h := h2.set nb (.cells (entC (l.set i (t, x))) (.own (some (35, 0))))) (NHeap.get_set_same lb2) (entC_len _) (c := l.length) (x := some 2) (by simp) (.inr rfl)
        rw [List.length_set] at this
        rw [Ents, List.length_set]
        exact this
    · have hp : put l (t, x) = (l.take i ++ (t, x) :: l.drop i, 0, false) := by
        unfold put
        rw [if_neg (fun q => by
          obtain ⟨e', h1, h2⟩ := (found_iff l t).1 q
          rw [hi, he] at h1
          cases h1
          exact het h2), hi]
      have het' : (e.1 == t) = false := by simpa using het
      have nbb : ¬ b = nb := by
        have : b < h.next := by
          rcases hs.at (by omega) with ⟨b3, _, _, _, _, _, hv3, _, _, g3, _⟩
          rw [hv'] at hv3; cases hv3
          exact NHeap.get_lt g3
        have := x0.next
        omega
      have gV : (h2.alloc (.cells [.str t, .int .i64 x] (.own none))).get h2.next = some (.cells [.str t, .int .i64 x] (.own none)) := by simp [NHeap.get_alloc]
      have gB : (h2.alloc (.cells [.str t, .int .i64 x] (.own none))).get nb = some (.cells (entC l) (.own (some (35, 0)))) := by rw [NHeap.get_alloc, if_neg (by omega)]; exact gN2
      have eI := Insert_K (h2.alloc (.cells [.str t, .int .i64 x] (.own none))) nb l.length i h2.next 0 1 l.length none (entC l) [.str t, .int .i64 x] none gB gV (by omega) (entC_len l) hlt (by omega) rfl (entC_one l) rfl
      have ecs : (entC l).take (i * 2) ++ ([NVal.str t, .int .i64 x].drop 0).take 2 ++ (entC l).drop (i * 2) = entC (l.take i ++ (t, x) :: l.drop i) := by
        rw [entC_take, entC_drop, entC_append, entC_cons]
        simp
      rw [ecs] at eI
      have ll : (l.take i ++ (t, x) :: l.drop i).length = l.length + 1 := by simp; omega
      rw [hp]
      refine ⟨.slice (some (h2.next + 1, 0)) (l.length + 1) (l.length + 1) (some 2), _, ?_, ((xx.alloc (.cells [.str t, .int .i64 x] (.own none))).set (b := nb) (by have := x0.next; omega) .dead).alloc (.cells (entC (l.take i ++ (t, x) :: l.drop i)) (.own (some (35, 0)))), ?_, fun b hb => by simp [blk] at hb; have := xx.next; omega⟩
      · rw [hv'] at e1 e2 ⊢
        simp only [bodyOf, Option.getD_some, go_sem, seval, Try.f8, hH0, e1, g0, x1.get g0, e2, g2, i0, i1, gA, q1, q2, het', gN2, lb2, nbb, eI]
      · have := Sl.whole (sz := 2) (h := ((h2.alloc (.cells [.str t, .int .i64 x] (.own none))).set nb .dead).alloc (.cells (entC (l.take i ++ (t, x) :: l.drop i)) (.own (some (35, 0))))) (b := h2.next + 1) (n := l.length + 1) (c := l.length + 1) (x := some 2) (all := entC (l.take i ++ (t, x) :: l.drop i)) (m := .own (some (35, 0))) (by simp [NHeap.get_alloc]) (by rw [entC_len, ll]) (Nat.le_refl _) (.inr rfl)
        rw [Ents, ll]
        exact this
  · have hil : i = l.length := by omega
    subst hil
    have i1 : ¬ ((l.length : Nat) : Int) < (l.length : Int) := by omega
    have hp : put l (t, x) = (l ++ [(t, x)], 0, false) := by
      unfold put
      rw [if_neg (fun q => by
        obtain ⟨e', h1, h2⟩ := (found_iff l t).1 q
        rw [hi] at h1
        simp at h1), hi]
      simp
    have gV : (h2.alloc (.cells [.str t, .int .i64 x] (.own none))).get h2.next = some (.cells [.str t, .int .i64 x] (.own none)) := by simp [NHeap.get_alloc]
    have fr : FRow (h2.alloc (.cells [.str t, .int .i64 x] (.own none))) v1 l ∧ ∀ b ∈ blk v1, h.next ≤ b := by
      by_cases hne : l = []
      · subst hne
        rcases c1 rfl with rfl | ⟨b, hb, rfl⟩
        · exact ⟨.inl ⟨rfl, rfl⟩, by simp [blk]⟩
        · exact ⟨.inr (.inl ⟨_, rfl, rfl⟩), fun b' hb' => by simp [blk] at hb'; subst hb'; have := x0.next; omega⟩
      · obtain ⟨rfl, n1, gN⟩ := c2 hne
        refine ⟨.inr (.inr ⟨_, some 2, _, rfl, .inr rfl, by rw [NHeap.get_alloc, if_neg (by have := NHeap.get_lt (x2.get gN); omega)]; exact x2.get gN, List.length_pos_iff.2 hne⟩), fun b' hb' => ?_⟩
        simp [blk] at hb'
        have := x0.next
        omega
    obtain ⟨h3, eI, U3, n3, s3⟩ := InsertEnd_K _ v1 l fr.1 (by omega) h2.next (t, x) none gV
    rw [hp]
    refine ⟨.slice (some (h2.next + 1, 0)) (l.length + 1) (l.length + 1) (some 2), h3, ?_, ?_, ?_, fun b hb => by simp [blk] at hb; have := xx.next; omega⟩
    · rw [hv] at e1 e2 ⊢
      simp only [bodyOf, Option.getD_some, go_sem, seval, Try.f8, hH0, e1, g0, x1.get g0, e2, g2, i1, eI, hveq]
    · have := xx.alloc (.cells [.str t, .int .i64 x] (.own none))
      refine Upd.ext (((Upd.of_ext this).trans' (U3.mono (fq := blk v1) fun b hb => .inl hb) fun b hb => .inr (fr.2 b hb)))
    · rw [Ents, List.length_append, List.length_singleton]
      exact s3

theorem Drop_K (h : NHeap) (v : NVal) (l : List Ent) (hs : Ents h v l) (hl : l.length < 2 ^ 29) (t : List UInt8) :
    ∃ v' h', K env 9 [v, .str t] h = some (.tuple [v', .int .i64 (drop l t).2.1, .bool (drop l t).2.2], h') ∧ Ext h h' ∧ Ents h' v' (drop l t).1 ∧ ∀ b ∈ blk v', h.next ≤ b := by
  obtain ⟨h1, e1, x1⟩ := Seek_K h v l hs (by omega) t
  obtain ⟨v2, h2, e2, x2, s2, c1, c2⟩ := Clone_K h1 v l (hs.ext x1) (by omega)
  have xx := x1.trans x2
  obtain ⟨bo, c, xq, hv⟩ := hs.form
  have hsk := seek_le l t
  obtain ⟨i, hi⟩ : ∃ i, seek l t = i := ⟨_, rfl⟩
  rw [hi] at e1 hsk
  have i0 : (0 : Int) ≤ (i : Int) := by omega
  have hveq : veq 50 v2 v2 = true := s2.veq
  rw [k9 _ _ (by simp)]
  by_cases hlt : i < l.length
  · obtain ⟨e, he⟩ : ∃ e, l[i]? = some e := ⟨l[i]'(by omega), List.getElem?_eq_getElem (by omega)⟩
    obtain ⟨b, o, c', x', all, m, hv', hc, hx, gA, hcs, hle⟩ := hs.at (by omega)
    have row := (seg_at hcs hlt).trans (entC_at l i e he)
    have i1 : (i : Int) < (l.length : Int) := by omega
    have i2 : ¬ (i : Int) = (l.length : Int) := by omega
    have hne : l ≠ [] := by rintro rfl; simp at hlt
    obtain ⟨rfl, n1, gN⟩ := c2 hne
    obtain ⟨nb, hnb⟩ : ∃ nb, h2.next - 1 = nb := ⟨_, rfl⟩
    rw [hnb] at gN e2 hveq
    have q1 : all[o + i * 2]? = some (.str e.1) := by
      have := congrArg (·[0]?) row
      simpa using this
    have q2 : all[o + i * 2 + 1]? = some (.int .i64 e.2) := by
      have := congrArg (·[1]?) row
      simpa using this
    have g1 := x1.get gA
    have g2 := x2.get g1
    have nbb : b ≠ nb := by have := NHeap.get_lt g1; omega
    by_cases het : e.1 = t
    · have hp : drop l t = (l.eraseIdx i, e.2, true) := by
        unfold drop
        rw [if_pos ((found_iff l t).2 ⟨e, by rw [hi]; exact he, het⟩), hi, List.getD_eq_getElem?_getD, he]; rfl
      have het' : (e.1 == t) = true := by simpa using het
      obtain ⟨h3, e3, U3, n3, g3⟩ := Delete_K h2 nb l _ gN i hlt (by omega)
      have g4 := U3.get g2 (by simpa using nbb)
      have w1 : IntKind.i64.wrap ((i : Int) + 1) = ((i + 1 : Nat) : Int) := by rw [wrap_i64_small (by omega) (by omega)]; omega
      have n12 : h1.next ≤ h2.next := x2.next
      have n23 : h2.next ≤ h3.next := by omega
      rw [hp]
      refine ⟨.slice (some (nb, 0)) (l.length - 1) l.length (some 2), h3, ?_, ?_, ?_, fun b hb => by simp [blk] at hb; have := x1.next; omega⟩
      · rw [hv'] at e1 e2 ⊢
        simp only [bodyOf, Option.getD_some, go_sem, seval, Try.f9, e1, e2, i0, i1, i2, g1, g2, g4, q1, q2, het', w1, e3, n12, n23]
      · exact Upd.ext ((Upd.of_ext xx).trans' U3 fun b hb => .inr (by simp at hb; subst hb; have := x1.next; omega))
      · have el : (l.eraseIdx i).length = l.length - 1 := List.length_eraseIdx_of_lt hlt
        have := Sl.row (sz := 2) (n := l.length - 1) (c := l.length) (x := some 2) (o := 0) g3 (by simp [entC_len, el]) (by omega) (.inr rfl)
        rw [List.drop_zero, List.take_left' (by rw [entC_len, el])] at this
        rw [Ents, el]
        exact this
    · have hp : drop l t = (l, 0, false) := by
        unfold drop
        rw [if_neg (fun q => by
          obtain ⟨e', h1, h2⟩ := (found_iff l t).1 q
          rw [hi, he] at h1
          cases h1
          exact het h2)]
      have het' : (e.1 == t) = false := by simpa using het
      rw [hp]
      refine ⟨.slice (some (nb, 0)) l.length l.length (some 2), h2, ?_, xx, by rw [← hnb]; exact s2, fun b hb => by simp [blk] at hb; have := x1.next; omega⟩
      rw [hv'] at e1 e2 ⊢
      simp only [bodyOf, Option.getD_some, go_sem, seval, Try.f9, e1, e2, i0, i1, i2, g1, q1, het']
  · have hil : i = l.length := by omega
    subst hil
    have hp : drop l t = (l, 0, false) := by
      unfold drop
      rw [if_neg (fun q => by
        obtain ⟨e', h1, h2⟩ := (found_iff l t).1 q
        rw [hi] at h1
        simp at h1)]
    rw [hp]
    refine ⟨v2, h2, ?_, xx, s2, ?_⟩
    rotate_left
    · intro b hb
      have := x1.next
      by_cases hne : l = []
      · rcases c1 hne with rfl | ⟨b', hb', rfl⟩
        · simp [blk] at hb
        · simp [blk] at hb; omega
      · obtain ⟨rfl, n1, gN⟩ := c2 hne
        simp [blk] at hb; omega
    rw [hv] at e1 e2 ⊢
    simp only [bodyOf, Option.getD_some, go_sem, seval, Try.f9, e1, e2, hveq]
end shape
end Go.Proofs.Ytblhpikljhholaa.S

namespace Go.Proofs.Ytblhpikljhholaa.S
open Go Go.RowKit Go.Proofs.Ytblhpikljhholaa.NICE
set_option maxRecDepth 100000
set_option linter.unusedSimpArgs false
set_option linter.unusedVariables false
namespace lin
open shape

structure Op where
  k : Int
  t : List UInt8
  to : List UInt8
  v : Int
structure Ans where
  err : Int
  found : Bool
  value : Int
  lb : Option (Nat × Nat)
  ln : Nat
  lc : Nat
  lx : Option Nat
structure Done where
  client : Int
  begin : Int
  op : Op
  ans : Ans
structure Ev where
  kind : Int
  client : Int
  op : Op
  ans : Ans
abbrev Op.c (o : Op) : List NVal := [.int .i64 o.k, .str o.t, .str o.to, .int .i64 o.v]
abbrev Ans.c (a : Ans) : List NVal := [.int .i64 a.err, .bool a.found, .int .i64 a.value, .slice a.lb a.ln a.lc a.lx]
abbrev Done.c (d : Done) : List NVal := [.int .i64 d.client, .int .i64 d.begin, .int .i64 d.op.k, .str d.op.t, .str d.op.to, .int .i64 d.op.v, .int .i64 d.ans.err, .bool d.ans.found, .int .i64 d.ans.value, .slice d.ans.lb d.ans.ln d.ans.lc d.ans.lx]
abbrev Ev.c (d : Ev) : List NVal := [.int .i64 d.kind, .int .i64 d.client, .int .i64 d.op.k, .str d.op.t, .str d.op.to, .int .i64 d.op.v, .int .i64 d.ans.err, .bool d.ans.found, .int .i64 d.ans.value, .slice d.ans.lb d.ans.ln d.ans.lc d.ans.lx]
theorem Done.len (d : Done) : d.c.length = 10 := rfl
theorem Ev.len (d : Ev) : d.c.length = 10 := rfl
theorem Done.one (d : Done) : allOne d.c = true := rfl
theorem Ev.one (d : Ev) : allOne d.c = true := rfl
abbrev Dones (h : NHeap) (v : NVal) (l : List Done) : Prop := Rw h 10 Done.c v l
abbrev Evs (h : NHeap) (v : NVal) (l : List Ev) : Prop := Rw h 10 Ev.c v l

def inOp (o : Op) (t : List UInt8) : Bool := !Op.bytesLess t o.t && (o.to == [] || Op.bytesLess t o.to)
theorem in_K (o : Op) (t : List UInt8) (h : NHeap) : ∃ h', K env 27 [.agg [.int .i64 o.k, .str o.t, .str o.to, .int .i64 o.v], .str t] h = some (.bool (inOp o t), h') ∧ Ext h h' := by
  cases h1 : Op.bytesLess t o.t <;> cases h2 : (o.to == []) <;> cases h3 : Op.bytesLess t o.to <;>
  · refine ⟨_, (by simp only [k27, Try.f27, bodyOf, Option.getD_some, go_sem, seval, h1, h2, h3, inOp]; exact rfl), ?_⟩
    repeat (first | exact Ext.refl _ | assumption | apply Ext.alloc | refine Ext.set ?_ (by first | omega | (simp only [NHeap.next_alloc, NHeap.next_set]; omega)) _)

def value (l : List Ent) (t : List UInt8) : Int × Bool := if l[seek l t]?.map (·.1) = some t then ((l.getD (seek l t) ([], 0)).2, true) else (0, false)
theorem value_K (h : NHeap) (v : NVal) (l : List Ent) (hs : Ents h v l) (hl : l.length < 2 ^ 29) (t : List UInt8) : ∃ h', K env 28 [v, .str t] h = some (.tuple [.int .i64 (value l t).1, .bool (value l t).2], h') ∧ Ext h h' := by
  obtain ⟨h1, e1, x1⟩ := Seek_K h v l hs (by omega) t
  obtain ⟨bo, c, xq, hv⟩ := hs.form
  have hsk := seek_le l t
  obtain ⟨i, hi⟩ : ∃ i, seek l t = i := ⟨_, rfl⟩
  rw [hi] at e1 hsk
  have i0 : (0 : Int) ≤ (i : Int) := by omega
  refine ⟨h1, ?_, x1⟩
  by_cases hlt : i < l.length
  · obtain ⟨e, he⟩ : ∃ e, l[i]? = some e := ⟨l[i]'(by omega), List.getElem?_eq_getElem (by omega)⟩
    obtain ⟨b, o, c', x', all, m, hv', gA, row, hle⟩ := Sl.elem (f := fun e : Ent => [.str e.1, .int .i64 e.2]) (fun _ => rfl) hs he
    have q1 := rowcell (j := 0) row rfl
    have q2 := rowcell (j := 1) row rfl
    simp only [Nat.add_zero] at q1
    have i1 : (i : Int) < (l.length : Int) := by omega
    have i2 : ¬ (i : Int) = (l.length : Int) := by omega
    have g1 := x1.get gA
    rw [hv'] at e1 ⊢
    by_cases het : e.1 = t
    · have hp : value l t = (e.2, true) := by
        unfold value
        rw [if_pos ((found_iff l t).2 ⟨e, by rw [hi]; exact he, het⟩), hi, List.getD_eq_getElem?_getD, he]; rfl
      have het' : (e.1 == t) = true := by simpa using het
      rw [hp]
      simp only [k28, Try.f28, bodyOf, Option.getD_some, go_sem, seval, e1, i0, i1, i2, g1, q1, q2, het']
    · have hp : value l t = (0, false) := by
        unfold value
        rw [if_neg (fun q => by
          obtain ⟨e', h1, h2⟩ := (found_iff l t).1 q
          rw [hi, he] at h1
          cases h1
          exact het h2)]
      have het' : (e.1 == t) = false := by simpa using het
      rw [hp]
      simp only [k28, Try.f28, bodyOf, Option.getD_some, go_sem, seval, e1, i0, i1, i2, g1, q1, q2, het']
  · have hil : i = l.length := by omega
    subst hil
    have hp : value l t = (0, false) := by
      unfold value
      rw [if_neg (fun q => by
        obtain ⟨e', h1, h2⟩ := (found_iff l t).1 q
        rw [hi] at h1
        simp at h1)]
    rw [hp, hv] at *
    simp only [k28, Try.f28, bodyOf, Option.getD_some, go_sem, seval, e1]

/-! began, end -/
def opEq (a b : Op) : Bool := a.k == b.k && (a.t == b.t && (a.to == b.to && a.v == b.v))
theorem neq_op (a b : Op) : neq Try.prog 6 29 (.agg [.int .i64 a.k, .str a.t, .str a.to, .int .i64 a.v]) (.agg [.int .i64 b.k, .str b.t, .str b.to, .int .i64 b.v]) = some (opEq a b) := by
  have e : neq Try.prog 6 29 (.agg [.int .i64 a.k, .str a.t, .str a.to, .int .i64 a.v]) (.agg [.int .i64 b.k, .str b.t, .str b.to, .int .i64 b.v]) = (match a.k == b.k with | false => some false | true => match a.t == b.t with | false => some false | true => match a.to == b.to with | false => some false | true => match a.v == b.v with | false => some false | true => some true) := by kernel_rfl
  rw [e]
  unfold opEq
  cases a.k == b.k <;> cases a.t == b.t <;> cases a.to == b.to <;> cases a.v == b.v <;> rfl
theorem eql_op (a b : Op) : nbin Try.prog .eql 29 (.agg [.int .i64 a.k, .str a.t, .str a.to, .int .i64 a.v]) (.agg [.int .i64 b.k, .str b.t, .str b.to, .int .i64 b.v]) = some (.bool (opEq a b)) := by
  have e : nbin Try.prog .eql 29 (.agg [.int .i64 a.k, .str a.t, .str a.to, .int .i64 a.v]) (.agg [.int .i64 b.k, .str b.t, .str b.to, .int .i64 b.v]) = (match neq Try.prog 6 29 (.agg [.int .i64 a.k, .str a.t, .str a.to, .int .i64 a.v]) (.agg [.int .i64 b.k, .str b.t, .str b.to, .int .i64 b.v]) with | some b => some (.bool b) | none => nsame Try.prog 29 (.agg [.int .i64 a.k, .str a.t, .str a.to, .int .i64 a.v]) (.agg [.int .i64 b.k, .str b.t, .str b.to, .int .i64 b.v]) true) := rfl
  rw [e, neq_op]

def began (hs : List Ev) (d : Done) : Bool := decide (0 ≤ d.begin) && match hs[d.begin.toNat]? with
  | some e => e.kind == 1 && (e.client == d.client && opEq e.op d.op)
  | none => false
theorem began_K (h : NHeap) (v : NVal) (hs : List Ev) (he : Evs h v hs) (d : Done) : ∃ h', K env 20 [v, .agg d.c] h = some (.bool (began hs d), h') ∧ Ext h h' := by
  obtain ⟨bo, c, xq, hv⟩ := he.form
  by_cases h0 : d.begin < 0
  · have hp : began hs d = false := by
      have : ¬ 0 ≤ d.begin := by omega
      simp [began, this]
    rw [hp]
    refine ⟨_, (by simp only [k20, Try.f20, bodyOf, Option.getD_some, go_sem, seval, hv, h0]; exact rfl), ?_⟩
    repeat (first | exact Ext.refl _ | assumption | apply Ext.alloc | refine Ext.set ?_ (by first | omega | (simp only [NHeap.next_alloc, NHeap.next_set]; omega)) _)
  · obtain ⟨i, hi⟩ : ∃ i : Nat, d.begin = (i : Int) := ⟨d.begin.toNat, by omega⟩
    by_cases hlt : i < hs.length
    · obtain ⟨e, hei⟩ : ∃ e, hs[i]? = some e := ⟨hs[i]'(by omega), List.getElem?_eq_getElem (by omega)⟩
      obtain ⟨b, o, c', x', all, m, hv', gA, row, hle⟩ := Sl.elem Ev.len he hei
      have i0 : (0 : Int) ≤ (i : Int) := by omega
      have i1 : (i : Int) < (hs.length : Int) := by omega
      have i2 : ¬ (i : Int) < 0 := by omega
      have i3 : ¬ (hs.length : Int) ≤ (i : Int) := by omega
      have nb : ¬ b = h.next := by have := NHeap.get_lt gA; omega
      have eo := eql_op e.op d.op
      have hp : began hs d = (e.kind == 1 && (e.client == d.client && opEq e.op d.op)) := by
        simp [began, hi, hei]
      rw [hp, hv']
      by_cases c1 : e.kind = 1 <;> by_cases c2 : e.client = d.client <;>
      · have d1 : (e.kind == 1) = decide (e.kind = 1) := rfl
        have d2 : (e.client == d.client) = decide (e.client = d.client) := rfl
        refine ⟨_, (by simp only [k20, Try.f20, bodyOf, Option.getD_some, go_sem, seval, hi, i0, i1, i2, i3, gA, row, hle, nb, c1, c2, eo, d1, d2]; exact rfl), ?_⟩
        repeat (first | exact Ext.refl _ | assumption | apply Ext.alloc | refine Ext.set ?_ (by first | omega | (simp only [NHeap.next_alloc, NHeap.next_set]; omega)) _)
    · have hp : began hs d = false := by
        have : hs[i]? = none := List.getElem?_eq_none (by omega)
        simp [began, hi, this]
      have i2 : ¬ (i : Int) < 0 := by omega
      have i3 : (hs.length : Int) ≤ (i : Int) := by omega
      rw [hp, hv]
      refine ⟨_, (by simp only [k20, Try.f20, bodyOf, Option.getD_some, go_sem, seval, hi, i2, i3]; exact rfl), ?_⟩
      repeat (first | exact Ext.refl _ | assumption | apply Ext.alloc | refine Ext.set ?_ (by first | omega | (simp only [NHeap.next_alloc, NHeap.next_set]; omega)) _)

/-- how many events on the next end of a client's operation is -/
def nd (c : Int) : List Ev → Nat
  | [] => 0
  | e :: l => if e.kind = 2 ∧ e.client = c then 0 else nd c l + 1
def fin (hs : List Ev) (d : Done) : Nat := if (hs.length : Int) ≤ d.begin then hs.length else (max (d.begin + 1) 0).toNat + nd d.client (hs.drop (max (d.begin + 1) 0).toNat)
theorem nd_le (c : Int) : ∀ l, nd c l ≤ l.length
  | [] => Nat.le_refl _
  | e :: l => by
    have := nd_le c l
    unfold nd
    split <;> simp <;> omega
theorem fin_le (hs : List Ev) (d : Done) : fin hs d ≤ hs.length := by
  unfold fin
  split
  · exact Nat.le_refl _
  · have := nd_le d.client (hs.drop (max (d.begin + 1) 0).toNat)
    simp at this
    omega

noncomputable def lbE : Code := inC (inC (atC (bodyOf Try.f21) 4))

theorem loopE (h : NHeap) (v : NVal) (hs : List Ev) (he : Evs h v hs) (hl : hs.length < 2 ^ 40) (d : Done) (p : Nat) (m) (gp : h.get p = some (.cells d.c m)) (r : Nat) (Q : Out → Prop)
    (hQ1 : ∀ (F : Fr), r < hs.length → F 4 = .int .i64 r → Q (some (.ret, toL 42 F, h)))
    (hQ2 : ∀ (F : Fr), r = hs.length → F 0 = v → Q (some (.exit 0, toL 42 F, h))) :
    ∀ (f i : Nat) (F : Fr), i + f = hs.length → i + nd d.client (hs.drop i) = r → F 0 = v → F 3 = .ptr (some (p, 0)) → F 5 = .int .i64 i → Q (C env (.loop lbE) (toL 42 F) h) := by
  intro f
  induction f with
  | zero =>
    intro i F hi hr f0 f3 f5
    have : i = hs.length := by omega
    subst this
    obtain ⟨bo, c, xq, hv⟩ := he.form
    rw [S_loop]
    conv => arg 1; arg 2; arg 2; simp only [lbE, bodyOf, Option.getD_some, atC, seqL, inC, elC, List.nil_append, List.cons_append, List.getElem?_cons_succ, List.getElem?_cons_zero, Try.f21]
    simp only [go_sem, seval, f0, f5, hv]
    refine hQ2 _ ?_ (by simp only [go_sem, seval, f0, hv])
    rw [← hr, List.drop_length]; rfl
  | succ f ih =>
    intro i F hi hr f0 f3 f5
    obtain ⟨e, hei⟩ : ∃ e, hs[i]? = some e := ⟨hs[i]'(by omega), List.getElem?_eq_getElem (by omega)⟩
    obtain ⟨b, o, c', x', all, mm, hv', gA, row, hle⟩ := Sl.elem Ev.len he hei
    have q0 := rowcell (j := 0) row rfl
    have q1 := rowcell (j := 1) row rfl
    simp only [Nat.add_zero] at q0
    have i0 : (0 : Int) ≤ (i : Int) := by omega
    have i1 : (i : Int) < (hs.length : Int) := by omega
    have w1 : IntKind.i64.wrap ((i : Int) + 1) = ((i + 1 : Nat) : Int) := by rw [wrap_i64_small (by omega) (by omega)]; omega
    have hd : hs.drop i = e :: hs.drop (i + 1) := by
      rw [List.drop_eq_getElem_cons (by omega)]
      congr 1
      rw [List.getElem?_eq_getElem (by omega)] at hei
      exact Option.some.inj hei
    have next : ¬ (e.kind = 2 ∧ e.client = d.client) → i + 1 + nd d.client (hs.drop (i + 1)) = r := by
      intro q
      rw [← hr, hd, nd, if_neg q]; omega
    rw [hv'] at f0
    rw [S_loop]
    conv => arg 1; arg 2; arg 2; simp only [lbE, bodyOf, Option.getD_some, atC, seqL, inC, elC, List.nil_append, List.cons_append, List.getElem?_cons_succ, List.getElem?_cons_zero, Try.f21]
    by_cases c1 : e.kind = 2
    · by_cases c2 : e.client = d.client
      · have hir : r = i := by rw [← hr, hd, nd, if_pos ⟨c1, c2⟩]; rfl
        simp only [go_sem, seval, f0, f3, f5, i0, i1, gA, q0, q1, gp, c1, c2]
        refine hQ1 _ (by omega) (by simp only [go_sem, seval, hir])
      · simp only [go_sem, seval, f0, f3, f5, i0, i1, gA, q0, q1, gp, c1, c2, w1]
        exact ih (i + 1) _ (by omega) (next fun q => c2 q.2) (by simp only [go_sem, seval, f0, hv']) (by simp only [go_sem, seval, f3]) (by simp only [go_sem, seval])
    · simp only [go_sem, seval, f0, f3, f5, i0, i1, gA, q0, q1, gp, c1, w1]
      exact ih (i + 1) _ (by omega) (next fun q => c1 q.1) (by simp only [go_sem, seval, f0, hv']) (by simp only [go_sem, seval, f3]) (by simp only [go_sem, seval])

theorem end_K (h : NHeap) (v : NVal) (hs : List Ev) (he : Evs h v hs) (hl : hs.length < 2 ^ 40) (d : Done) (hd : d.begin < 2 ^ 40) (hd' : -2 ^ 40 < d.begin) : ∃ h', K env 21 [v, .agg d.c] h = some (.int .i64 (fin hs d : Nat), h') ∧ Ext h h' := by
  obtain ⟨bo, c, xq, hv⟩ := he.form
  obtain ⟨H, hH⟩ : ∃ H, h.alloc (.cells d.c (.own none)) = H := ⟨_, rfl⟩
  have x0 : Ext h H := by rw [← hH]; exact (Ext.refl h).alloc _
  have g0 : H.get h.next = some (.cells d.c (.own none)) := by rw [← hH]; simp [NHeap.get_alloc]
  simp only [Done.c] at hH
  refine ⟨H, ?_, x0⟩
  by_cases h0 : (hs.length : Int) ≤ d.begin
  · have hp : fin hs d = hs.length := by rw [fin, if_pos h0]
    rw [hp, hv]
    simp only [k21, Try.f21, bodyOf, Option.getD_some, go_sem, seval, hH, g0, h0]
  · obtain ⟨i, hi⟩ : ∃ i : Nat, max (d.begin + 1) 0 = (i : Int) := ⟨(max (d.begin + 1) 0).toNat, by omega⟩
    have hp : fin hs d = i + nd d.client (hs.drop i) := by rw [fin, if_neg h0, hi]; rfl
    have w1 : IntKind.i64.wrap (d.begin + 1) = d.begin + 1 := wrap_i64_small (by omega) (by omega)
    have m1 : (if (0 : Int) > d.begin + 1 then (0 : Int) else d.begin + 1) = (i : Int) := by rw [← hi]; split <;> omega
    have hil : i ≤ hs.length := by omega
    rw [k21 _ _ (by simp)]
    simp only [bodyOf, Option.getD_some, go_sem, seval, Try.f21, hv, hH, g0, h0, w1]
    simp only [gt_iff_lt] at m1
    simp only [m1]
    have key := fun rest => loopE H v hs (he.ext x0) hl d h.next _ g0 (fin hs d) (fun r => outF Try.prog [.tmp 4] (thenD env (blockC 0 r) rest) = some (.int .i64 (fin hs d : Nat), H))
    refine key _ ?_ ?_ (hs.length - i) i _ (by omega) hp.symm ?_ ?_ ?_
    · intro F hlt f4
      simp only [go_sem, seval, f4]
    · intro F heq f0
      simp only [go_sem, seval, f0, hv, heq]
    · simp only [go_sem, seval, hv]
    · simp only [go_sem, seval]
    · simp only [go_sem, seval]

/-! done, Replay -/
def res (l : List Ent) (o : Op) : List Ent × Int × Bool := if o.k = 1 then (l, (value l o.t).1, (value l o.t).2) else if o.k = 2 then put l (o.t, o.v) else drop l o.t
def counts (o : Op) : Bool := o.k == 1 || (o.k == 2 || o.k == 3)
/-- the entries behind an operation, the answer that it must have, whether it counts -/
def doneF (l : List Ent) (d : Done) : List Ent × (Int × Bool × Int) × Bool :=
  if counts d.op = true then (if d.ans.err = 2 ∧ d.op.k ≠ 1 then (l, (2, false, 0), true) else ((res l d.op).1, (0, (res l d.op).2.2, (res l d.op).2.1), true)) else (l, (0, false, 0), false)

theorem done_get (h : NHeap) (v : NVal) (l : List Ent) (hs : Ents h v l) (hl : l.length < 2 ^ 29) (d : Done) (k1 : d.op.k = 1) (H : NHeap) (hH : ((h.alloc (.cells d.c (.own none))).alloc (.cells [.int .i64 0, .bool false, .int .i64 0, .slice none 0 0 none] (.own (some (32, 4))))).alloc (.cells [.int .i64 0, .bool false, .int .i64 0, .slice none 0 0 none] (.own (some (32, 4)))) = H) :
    ∃ v' h', outF Try.prog [.tmp 4, .cell 5 32, .tmp 6] (C env (bodyOf Try.f19) (toL 89 (argF [v, .agg d.c])) h) = some (.tuple [v', .agg [.int .i64 (doneF l d).2.1.1, .bool (doneF l d).2.1.2.1, .int .i64 (doneF l d).2.1.2.2, .slice none 0 0 none], .bool (doneF l d).2.2], h') ∧ Ext h h' ∧ Ents h' v' (doneF l d).1 ∧ ∀ b ∈ blk v', b ∈ blk v ∨ h.next ≤ b := by
  obtain ⟨bo, c, xq, hv⟩ := hs.form
  have x0 : Ext h H := by rw [← hH]; exact (((Ext.refl h).alloc _).alloc _).alloc _
  have g0 : H.get h.next = some (.cells d.c (.own none)) := by
    rw [← hH]
    simp only [NHeap.get_alloc, NHeap.next_alloc]
    rw [if_neg (by omega), if_neg (by omega), if_pos trivial]
  have g1 : H.get (h.next + 1) = some (.cells [.int .i64 0, .bool false, .int .i64 0, .slice none 0 0 none] (.own (some (32, 4)))) := by rw [← hH]; simp [NHeap.get_alloc]
  have g2 : H.get (h.next + 2) = some (.cells [.int .i64 0, .bool false, .int .i64 0, .slice none 0 0 none] (.own (some (32, 4)))) := by rw [← hH]; simp [NHeap.get_alloc]
  have hn : H.next = h.next + 3 := by rw [← hH]; rfl
  simp only [Done.c] at hH
  have hsH := hs.ext x0
  have hc : counts d.op = true := by simp [counts, k1]
  have hp : doneF l d = (l, (0, (value l d.op.t).2, (value l d.op.t).1), true) := by
    unfold doneF
    rw [if_pos hc, if_neg (fun q => q.2 k1), res, if_pos k1]
  obtain ⟨h1, e1, x1⟩ := Seek_K H v l hsH (by omega) d.op.t
  have G0 := x1.get g0
  have G1 := x1.get g1
  have G2 := x1.get g2
  have L1 := NHeap.get_lt G1
  have L2 := NHeap.get_lt G2
  have L0 := NHeap.get_lt G0
  have n1 : H.next ≤ h1.next := x1.next
  have hsk := seek_le l d.op.t
  have hsv := (hsH.ext x1)
  obtain ⟨i, hi⟩ : ∃ i, seek l d.op.t = i := ⟨_, rfl⟩
  rw [hi] at e1 hsk
  have i0 : (0 : Int) ≤ (i : Int) := by omega
  have d12 : ¬ h.next + 1 = h.next + 2 := by omega
  have d21 : ¬ h.next + 2 = h.next + 1 := by omega
  have d02 : ¬ h.next = h.next + 2 := by omega
  have d01 : ¬ h.next = h.next + 1 := by omega
  have xx := x0.trans x1
  by_cases hlt : i < l.length
  · obtain ⟨e, he⟩ : ∃ e, l[i]? = some e := ⟨l[i]'(by omega), List.getElem?_eq_getElem (by omega)⟩
    obtain ⟨b, o, c', x', all, m, hv', gA, row, hle⟩ := Sl.elem (f := fun e : Ent => [.str e.1, .int .i64 e.2]) (fun _ => rfl) hsv he
    have q1 := rowcell (j := 0) row rfl
    have q2 := rowcell (j := 1) row rfl
    simp only [Nat.add_zero] at q1
    have i1 : (i : Int) < (l.length : Int) := by omega
    have bl : b < h.next := by
      obtain ⟨b3, _, _, _, _, _, hv3, g3, _⟩ := Sl.elem (f := fun e : Ent => [.str e.1, .int .i64 e.2]) (fun _ => rfl) hs he
      rw [hv'] at hv3; cases hv3
      exact NHeap.get_lt g3
    have nb1 : ¬ b = h.next + 1 := by omega
    have nb2 : ¬ b = h.next + 2 := by omega
    rw [hv'] at e1
    by_cases het : e.1 = d.op.t
    · have hval : value l d.op.t = (e.2, true) := by
        unfold value
        rw [if_pos ((found_iff l d.op.t).2 ⟨e, by rw [hi]; exact he, het⟩), hi, List.getD_eq_getElem?_getD, he]; rfl
      have het' : (e.1 == d.op.t) = true := by simpa using het
      rw [hp, hval]
      have fin : ∃ h', outF Try.prog [.tmp 4, .cell 5 32, .tmp 6] (C env (bodyOf Try.f19) (toL 89 (argF [v, .agg d.c])) h) = some (.tuple [v, .agg [.int .i64 0, .bool true, .int .i64 e.2, .slice none 0 0 none], .bool true], h') ∧ Ext h h' := by
        rw [hv']
        by_cases k2 : d.ans.err = 2
        · refine ⟨_, (by simp only [bodyOf, Option.getD_some, go_sem, seval, Try.f19, hH, hn, g0, g1, g2, k1, k2, e1, G0, G1, G2, i0, i1, gA, q1, q2, het', L0, L1, L2, d12, d21, d02, d01, nb1, nb2]; exact rfl), ?_⟩
          repeat (first | exact Ext.refl _ | assumption | apply Ext.alloc | refine Ext.set ?_ (by first | omega | (simp only [NHeap.next_alloc, NHeap.next_set]; omega)) _)
        · refine ⟨_, (by simp only [bodyOf, Option.getD_some, go_sem, seval, Try.f19, hH, hn, g0, g1, g2, k1, k2, e1, G0, G1, G2, i0, i1, gA, q1, q2, het', L0, L1, L2, d12, d21, d02, d01, nb1, nb2]; exact rfl), ?_⟩
          repeat (first | exact Ext.refl _ | assumption | apply Ext.alloc | refine Ext.set ?_ (by first | omega | (simp only [NHeap.next_alloc, NHeap.next_set]; omega)) _)
      obtain ⟨h', e, x⟩ := fin
      exact ⟨v, h', e, x, hs.ext x, fun b hb => .inl hb⟩
    · have hval : value l d.op.t = (0, false) := by
        unfold value
        rw [if_neg (fun q => by
          obtain ⟨e', h1, h2⟩ := (found_iff l d.op.t).1 q
          rw [hi, he] at h1
          cases h1
          exact het h2)]
      have het' : (e.1 == d.op.t) = false := by simpa using het
      rw [hp, hval]
      have fin : ∃ h', outF Try.prog [.tmp 4, .cell 5 32, .tmp 6] (C env (bodyOf Try.f19) (toL 89 (argF [v, .agg d.c])) h) = some (.tuple [v, .agg [.int .i64 0, .bool false, .int .i64 0, .slice none 0 0 none], .bool true], h') ∧ Ext h h' := by
        rw [hv']
        by_cases k2 : d.ans.err = 2
        · refine ⟨_, (by simp only [bodyOf, Option.getD_some, go_sem, seval, Try.f19, hH, hn, g0, g1, g2, k1, k2, e1, G0, G1, G2, i0, i1, gA, q1, q2, het', L0, L1, L2, d12, d21, d02, d01, nb1, nb2]; exact rfl), ?_⟩
          repeat (first | exact Ext.refl _ | assumption | apply Ext.alloc | refine Ext.set ?_ (by first | omega | (simp only [NHeap.next_alloc, NHeap.next_set]; omega)) _)
        · refine ⟨_, (by simp only [bodyOf, Option.getD_some, go_sem, seval, Try.f19, hH, hn, g0, g1, g2, k1, k2, e1, G0, G1, G2, i0, i1, gA, q1, q2, het', L0, L1, L2, d12, d21, d02, d01, nb1, nb2]; exact rfl), ?_⟩
          repeat (first | exact Ext.refl _ | assumption | apply Ext.alloc | refine Ext.set ?_ (by first | omega | (simp only [NHeap.next_alloc, NHeap.next_set]; omega)) _)
      obtain ⟨h', e, x⟩ := fin
      exact ⟨v, h', e, x, hs.ext x, fun b hb => .inl hb⟩
  · have hil : i = l.length := by omega
    subst hil
    have hval : value l d.op.t = (0, false) := by
      unfold value
      rw [if_neg (fun q => by
        obtain ⟨e', h1, h2⟩ := (found_iff l d.op.t).1 q
        rw [hi] at h1
        simp at h1)]
    rw [hp, hval]
    have fin : ∃ h', outF Try.prog [.tmp 4, .cell 5 32, .tmp 6] (C env (bodyOf Try.f19) (toL 89 (argF [v, .agg d.c])) h) = some (.tuple [v, .agg [.int .i64 0, .bool false, .int .i64 0, .slice none 0 0 none], .bool true], h') ∧ Ext h h' := by
      rw [hv] at e1 ⊢
      by_cases k2 : d.ans.err = 2
      · refine ⟨_, (by simp only [bodyOf, Option.getD_some, go_sem, seval, Try.f19, hH, hn, g0, g1, g2, k1, k2, e1, G0, G1, G2, L0, L1, L2, d12, d21, d02, d01]; exact rfl), ?_⟩
        repeat (first | exact Ext.refl _ | assumption | apply Ext.alloc | refine Ext.set ?_ (by first | omega | (simp only [NHeap.next_alloc, NHeap.next_set]; omega)) _)
      · refine ⟨_, (by simp only [bodyOf, Option.getD_some, go_sem, seval, Try.f19, hH, hn, g0, g1, g2, k1, k2, e1, G0, G1, G2, L0, L1, L2, d12, d21, d02, d01]; exact rfl), ?_⟩
        repeat (first | exact Ext.refl _ | assumption | apply Ext.alloc | refine Ext.set ?_ (by first | omega | (simp only [NHeap.next_alloc, NHeap.next_set]; omega)) _)
    obtain ⟨h', e, x⟩ := fin
    exact ⟨v, h', e, x, hs.ext x, fun b hb => .inl hb⟩
theorem done_wr (h : NHeap) (v : NVal) (l : List Ent) (hs : Ents h v l) (hl : l.length < 2 ^ 29) (d : Done) (k1 : ¬ d.op.k = 1) (H : NHeap) (hH : ((h.alloc (.cells d.c (.own none))).alloc (.cells [.int .i64 0, .bool false, .int .i64 0, .slice none 0 0 none] (.own (some (32, 4))))).alloc (.cells [.int .i64 0, .bool false, .int .i64 0, .slice none 0 0 none] (.own (some (32, 4)))) = H) : ∀ (v1 : NVal) (h1 : NHeap) (l1 : List Ent) (x : Int) (fd : Bool), Ext H h1 → Ents h1 v1 l1 → (∀ b ∈ blk v1, H.next ≤ b) →
        (d.op.k = 2 ∧ K env 8 [v, .agg [.str d.op.t, .int .i64 d.op.v]] H = some (.tuple [v1, .int .i64 x, .bool fd], h1) ∨ d.op.k = 3 ∧ K env 9 [v, .str d.op.t] H = some (.tuple [v1, .int .i64 x, .bool fd], h1)) →
        doneF l d = (if d.ans.err = 2 then (l, (2, false, 0), true) else (l1, (0, fd, x), true)) →
        ∃ v' h', outF Try.prog [.tmp 4, .cell 5 32, .tmp 6] (C env (bodyOf Try.f19) (toL 89 (argF [v, .agg d.c])) h) = some (.tuple [v', .agg [.int .i64 (doneF l d).2.1.1, .bool (doneF l d).2.1.2.1, .int .i64 (doneF l d).2.1.2.2, .slice none 0 0 none], .bool (doneF l d).2.2], h') ∧ Ext h h' ∧ Ents h' v' (doneF l d).1 ∧ ∀ b ∈ blk v', b ∈ blk v ∨ h.next ≤ b := by
  obtain ⟨bo, c, xq, hv⟩ := hs.form
  have x0 : Ext h H := by rw [← hH]; exact (((Ext.refl h).alloc _).alloc _).alloc _
  have g0 : H.get h.next = some (.cells d.c (.own none)) := by
    rw [← hH]
    simp only [NHeap.get_alloc, NHeap.next_alloc]
    rw [if_neg (by omega), if_neg (by omega), if_pos trivial]
  have g1 : H.get (h.next + 1) = some (.cells [.int .i64 0, .bool false, .int .i64 0, .slice none 0 0 none] (.own (some (32, 4)))) := by rw [← hH]; simp [NHeap.get_alloc]
  have g2 : H.get (h.next + 2) = some (.cells [.int .i64 0, .bool false, .int .i64 0, .slice none 0 0 none] (.own (some (32, 4)))) := by rw [← hH]; simp [NHeap.get_alloc]
  have hn : H.next = h.next + 3 := by rw [← hH]; rfl
  simp only [Done.c] at hH
  have hsH := hs.ext x0
  intro v1 h1 l1 x fd x1 s1 hfr hcall hd
  have G0 := x1.get g0
  have G1 := x1.get g1
  have G2 := x1.get g2
  have L1 := NHeap.get_lt G1
  have L2 := NHeap.get_lt G2
  have L0 := NHeap.get_lt G0
  have d12 : ¬ h.next + 1 = h.next + 2 := by omega
  have d21 : ¬ h.next + 2 = h.next + 1 := by omega
  have d02 : ¬ h.next = h.next + 2 := by omega
  have d01 : ¬ h.next = h.next + 1 := by omega
  have xx := x0.trans x1
  have hve1 : veq 50 v1 v1 = true := s1.veq
  have hve : veq 50 v v = true := hs.veq
  by_cases k2 : d.ans.err = 2
  · rw [hd, if_pos k2]
    have fin : ∃ h', outF Try.prog [.tmp 4, .cell 5 32, .tmp 6] (C env (bodyOf Try.f19) (toL 89 (argF [v, .agg d.c])) h) = some (.tuple [v, .agg [.int .i64 2, .bool false, .int .i64 0, .slice none 0 0 none], .bool true], h') ∧ Ext h h' := by
      rcases hcall with ⟨k3, e1⟩ | ⟨k3, e1⟩
      · refine ⟨_, (by simp only [bodyOf, Option.getD_some, go_sem, seval, Try.f19, hH, hn, g0, g1, g2, k2, k3, e1, G0, G1, G2, L0, L1, L2, d12, d21, d02, d01]; exact rfl), ?_⟩
        repeat (first | exact Ext.refl _ | assumption | apply Ext.alloc | refine Ext.set ?_ (by first | omega | (simp only [NHeap.next_alloc, NHeap.next_set]; omega)) _)
      · refine ⟨_, (by simp only [bodyOf, Option.getD_some, go_sem, seval, Try.f19, hH, hn, g0, g1, g2, k2, k3, e1, G0, G1, G2, L0, L1, L2, d12, d21, d02, d01]; exact rfl), ?_⟩
        repeat (first | exact Ext.refl _ | assumption | apply Ext.alloc | refine Ext.set ?_ (by first | omega | (simp only [NHeap.next_alloc, NHeap.next_set]; omega)) _)
    obtain ⟨h', e, x⟩ := fin
    exact ⟨v, h', e, x, hs.ext x, fun b hb => .inl hb⟩
  · rw [hd, if_neg k2]
    have fin : ∃ h', outF Try.prog [.tmp 4, .cell 5 32, .tmp 6] (C env (bodyOf Try.f19) (toL 89 (argF [v, .agg d.c])) h) = some (.tuple [v1, .agg [.int .i64 0, .bool fd, .int .i64 x, .slice none 0 0 none], .bool true], h') ∧ Upd [h.next + 1, h.next + 2] h1 h' := by
      rcases hcall with ⟨k3, e1⟩ | ⟨k3, e1⟩
      · refine ⟨_, (by simp only [bodyOf, Option.getD_some, go_sem, seval, Try.f19, hH, hn, g0, g1, g2, k2, k3, e1, G0, G1, G2, L0, L1, L2, d12, d21, d02, d01, hve1]; exact rfl), ?_⟩
        repeat (first | exact Upd.refl _ _ | refine Upd.set ?_ (.inl (by simp)) _)
      · refine ⟨_, (by simp only [bodyOf, Option.getD_some, go_sem, seval, Try.f19, hH, hn, g0, g1, g2, k2, k3, e1, G0, G1, G2, L0, L1, L2, d12, d21, d02, d01, hve1]; exact rfl), ?_⟩
        repeat (first | exact Upd.refl _ _ | refine Upd.set ?_ (.inl (by simp)) _)
    obtain ⟨h', e, u⟩ := fin
    refine ⟨v1, h', e, Upd.ext ((Upd.of_ext xx).trans' u fun b hb => .inr (by simp at hb; omega)), s1.upd u (fun b hb hb' => by have := hfr b hb; simp at hb'; omega), fun b hb => .inr (by have := hfr b hb; omega)⟩
theorem done_K (h : NHeap) (v : NVal) (l : List Ent) (hs : Ents h v l) (hl : l.length < 2 ^ 29) (d : Done) :
    ∃ v' h', K env 19 [v, .agg d.c] h = some (.tuple [v', .agg [.int .i64 (doneF l d).2.1.1, .bool (doneF l d).2.1.2.1, .int .i64 (doneF l d).2.1.2.2, .slice none 0 0 none], .bool (doneF l d).2.2], h') ∧ Ext h h' ∧ Ents h' v' (doneF l d).1 ∧ ∀ b ∈ blk v', b ∈ blk v ∨ h.next ≤ b := by
  obtain ⟨bo, c, xq, hv⟩ := hs.form
  obtain ⟨H, hH⟩ : ∃ H, ((h.alloc (.cells d.c (.own none))).alloc (.cells [.int .i64 0, .bool false, .int .i64 0, .slice none 0 0 none] (.own (some (32, 4))))).alloc (.cells [.int .i64 0, .bool false, .int .i64 0, .slice none 0 0 none] (.own (some (32, 4)))) = H := ⟨_, rfl⟩
  have x0 : Ext h H := by rw [← hH]; exact (((Ext.refl h).alloc _).alloc _).alloc _
  have g0 : H.get h.next = some (.cells d.c (.own none)) := by
    rw [← hH]
    simp only [NHeap.get_alloc, NHeap.next_alloc]
    rw [if_neg (by omega), if_neg (by omega), if_pos trivial]
  have g1 : H.get (h.next + 1) = some (.cells [.int .i64 0, .bool false, .int .i64 0, .slice none 0 0 none] (.own (some (32, 4)))) := by rw [← hH]; simp [NHeap.get_alloc]
  have g2 : H.get (h.next + 2) = some (.cells [.int .i64 0, .bool false, .int .i64 0, .slice none 0 0 none] (.own (some (32, 4)))) := by rw [← hH]; simp [NHeap.get_alloc]
  have hn : H.next = h.next + 3 := by rw [← hH]; rfl
  have hsH := hs.ext x0
  rw [k19 _ _ (by simp)]
  by_cases k1 : d.op.k = 1
  · exact done_get h v l hs hl d k1 H hH
  · by_cases k2 : d.op.k = 2
    · obtain ⟨v1, h1, e1, x1, s1, fr⟩ := Put_K H v l hsH hl d.op.t d.op.v
      refine done_wr h v l hs hl d k1 H hH v1 h1 _ _ _ x1 s1 fr (.inl ⟨k2, e1⟩) ?_
      have hc : counts d.op = true := by simp [counts, k2]
      unfold doneF
      rw [if_pos hc, res, if_neg k1, if_pos k2]
      simp [k1]
    · by_cases k3 : d.op.k = 3
      · obtain ⟨v1, h1, e1, x1, s1, fr⟩ := Drop_K H v l hsH hl d.op.t
        refine done_wr h v l hs hl d k1 H hH v1 h1 _ _ _ x1 s1 fr (.inr ⟨k3, e1⟩) ?_
        have hc : counts d.op = true := by simp [counts, k3]
        unfold doneF
        rw [if_pos hc, res, if_neg k1, if_neg k2]
        simp [k1]
      · have hc : counts d.op = false := by simp [counts, k1, k2, k3]
        have hp : doneF l d = (l, (0, false, 0), false) := by unfold doneF; rw [hc]; rfl
        rw [hp]
        have hve : veq 50 v v = true := hs.veq
        simp only [Done.c] at hH
        have l2 : h.next + 1 < h.next + 3 := by omega
        have fin : ∃ h', outF Try.prog [.tmp 4, .cell 5 32, .tmp 6] (C env (bodyOf Try.f19) (toL 89 (argF [v, .agg d.c])) h) = some (.tuple [v, .agg [.int .i64 0, .bool false, .int .i64 0, .slice none 0 0 none], .bool false], h') ∧ Ext h h' := by
          refine ⟨_, (by simp only [bodyOf, Option.getD_some, go_sem, seval, Try.f19, hH, hn, g0, g1, g2, k1, k2, k3, l2, hve]; exact rfl), ?_⟩
          repeat (first | exact Ext.refl _ | assumption | apply Ext.alloc | refine Ext.set ?_ (by first | omega | (simp only [NHeap.next_alloc, NHeap.next_set]; omega)) _)
        obtain ⟨h', e, x⟩ := fin
        exact ⟨v, h', e, x, hs.ext x, fun b hb => .inl hb⟩


end lin
end Go.Proofs.Ytblhpikljhholaa.S

namespace Go.Proofs.Ytblhpikljhholaa.S
open Go Go.RowKit Go.Proofs.Ytblhpikljhholaa.NICE
set_option maxRecDepth 100000
set_option linter.unusedSimpArgs false
set_option linter.unusedVariables false
namespace lin
open shape

def replay : List Ent → List Done → Nat → List Ent × Int
  | now, [], _ => (now, -1)
  | now, d :: ds, i =>
    if (doneF now d).2.2 = false then replay now ds (i + 1)
    else if d.ans.err = (doneF now d).2.1.1 ∧ d.ans.found = (doneF now d).2.1.2.1 ∧ d.ans.value = (doneF now d).2.1.2.2 ∧ d.ans.ln = 0 then replay (doneF now d).1 ds (i + 1)
    else (now, (i : Int))
theorem put_len (l : List Ent) (e : Ent) : (put l e).1.length ≤ l.length + 1 := by
  unfold put
  split
  · simp
  · have := seek_le l e.1
    simp; omega
theorem drop_len (l : List Ent) (t : List UInt8) : (drop l t).1.length ≤ l.length := by
  unfold drop
  split
  · simp only
    rw [List.length_eraseIdx]
    split <;> omega
  · simp
theorem doneF_len (l : List Ent) (d : Done) : (doneF l d).1.length ≤ l.length + 1 := by
  unfold doneF
  split
  · split
    · simp
    · simp only [res]
      split
      · simp
      · split
        · exact put_len _ _
        · have := drop_len l d.op.t; omega
  · simp

noncomputable def lbR : Code := inC (inC (atC (bodyOf Try.f10) 3))

theorem loopR (hA : NHeap) (v : NVal) (ds : List Done) (hd : Dones hA v ds) (hl : ds.length < 2 ^ 28) (R : List Ent × Int) (Q : Out → Prop)
    (hQ1 : ∀ (h : NHeap) (F : Fr) (nv : NVal) (i : Nat), Ext hA h → R.2 = (i : Int) → Ents h nv R.1 → (∀ b ∈ blk nv, hA.next ≤ b) → F 2 = nv → F 3 = .int .i64 i → Q (some (.ret, toL 60 F, h)))
    (hQ2 : ∀ (h : NHeap) (F : Fr) (nv : NVal), Ext hA h → R.2 = -1 → Ents h nv R.1 → (∀ b ∈ blk nv, hA.next ≤ b) → F 4 = nv → Q (some (.exit 0, toL 60 F, h))) :
    ∀ (f i : Nat) (now : List Ent) (nv : NVal) (h : NHeap) (F : Fr), i + f = ds.length → now.length ≤ i → replay now (ds.drop i) i = R → Ext hA h → Ents h nv now → (∀ b ∈ blk nv, hA.next ≤ b) → F 4 = nv → F 10 = v → F 11 = .int .i64 ds.length → F 12 = .int .i64 i → Q (C env (.loop lbR) (toL 60 F) h) := by
  intro f
  induction f with
  | zero =>
    intro i now nv h F hi hn hr hE hs hfr f4 f10 f11 f12
    have : i = ds.length := by omega
    subst this
    rw [List.drop_length, replay] at hr
    rw [S_loop]
    conv => arg 1; arg 2; arg 2; simp only [lbR, bodyOf, Option.getD_some, atC, seqL, inC, elC, List.nil_append, List.cons_append, List.getElem?_cons_succ, List.getElem?_cons_zero, Try.f10]
    simp only [go_sem, seval, f11, f12]
    refine hQ2 h _ nv hE (by rw [← hr]) (by rw [← hr]; exact hs) hfr (by simp only [go_sem, seval, f4])
  | succ f ih =>
    intro i now nv h F hi hn hr hE hs hfr f4 f10 f11 f12
    obtain ⟨d, hdi⟩ : ∃ d, ds[i]? = some d := ⟨ds[i]'(by omega), List.getElem?_eq_getElem (by omega)⟩
    obtain ⟨b, o, c', x', all, mm, hv', gA, row, hle⟩ := Sl.elem Done.len (hd.ext hE) hdi
    have i0 : (0 : Int) ≤ (i : Int) := by omega
    have i1 : (i : Int) < (ds.length : Int) := by omega
    have w1 : IntKind.i64.wrap ((i : Int) + 1) = ((i + 1 : Nat) : Int) := by rw [wrap_i64_small (by omega) (by omega)]; omega
    have hdr : ds.drop i = d :: ds.drop (i + 1) := by
      rw [List.drop_eq_getElem_cons (by omega)]
      congr 1
      rw [List.getElem?_eq_getElem (by omega)] at hdi
      exact Option.some.inj hdi
    have nb : ¬ b = h.next := by have := NHeap.get_lt gA; omega
    obtain ⟨H, hH⟩ : ∃ H, (h.alloc (.cells [.int .i64 0, .int .i64 0, .int .i64 0, .str [], .str [], .int .i64 0, .int .i64 0, .bool false, .int .i64 0, .slice none 0 0 none] (.own (some (40, 10))))).set h.next (.cells d.c (.own (some (40, 10)))) = H := ⟨_, rfl⟩
    have xH : Ext h H := by rw [← hH]; exact ((Ext.refl h).alloc _).set (Nat.le_refl _) _
    have gH : H.get h.next = some (.cells d.c (.own (some (40, 10)))) := by rw [← hH]; exact NHeap.get_set_same (by simp)
    obtain ⟨v1, h1, e1, x1, s1, fr1⟩ := done_K H nv now (hs.ext xH) (by omega) d
    have g1 := x1.get gH
    have n1 : h.next < h1.next := NHeap.get_lt g1
    have n2 : ¬ h.next = h1.next := by omega
    have hlen := doneF_len now d
    obtain ⟨⟨nx, ae, af, av⟩, ct, hD⟩ : ∃ a c, doneF now d = (a.1, (a.2.1, a.2.2.1, a.2.2.2), c) := ⟨(_, _, _, _), _, rfl⟩
    rw [hD] at e1 s1 hlen
    try simp only at e1
    try simp only at s1
    try simp only at hlen
    rw [hdr, replay, hD] at hr
    try simp only at hr
    simp only [Done.c] at hH gH e1 row g1
    have xx : Ext hA ((h1.alloc (.cells [.int .i64 0, .bool false, .int .i64 0, .slice none 0 0 none] (.own (some (32, 4))))).set h1.next (.cells [.int .i64 ae, .bool af, .int .i64 av, .slice none 0 0 none] (.own (some (32, 4))))) := (((hE.trans xH).trans x1).alloc _).set (Nat.le_trans hE.next (Nat.le_of_lt n1)) _
    have xy : Ext h ((h1.alloc (.cells [.int .i64 0, .bool false, .int .i64 0, .slice none 0 0 none] (.own (some (32, 4))))).set h1.next (.cells [.int .i64 ae, .bool af, .int .i64 av, .slice none 0 0 none] (.own (some (32, 4))))) := ((xH.trans x1).alloc _).set (Nat.le_of_lt n1) _
    have xz : Ext h1 ((h1.alloc (.cells [.int .i64 0, .bool false, .int .i64 0, .slice none 0 0 none] (.own (some (32, 4))))).set h1.next (.cells [.int .i64 ae, .bool af, .int .i64 av, .slice none 0 0 none] (.own (some (32, 4))))) := ((Ext.refl h1).alloc _).set (Nat.le_refl _) _
    rw [hv'] at f10
    rw [S_loop]
    conv => arg 1; arg 2; arg 2; simp only [lbR, bodyOf, Option.getD_some, atC, seqL, inC, elC, List.nil_append, List.cons_append, List.getElem?_cons_succ, List.getElem?_cons_zero, Try.f10]
    cases ct with
    | false =>
      rw [if_pos rfl] at hr
      simp only [go_sem, seval, f4, f10, f11, f12, i0, i1, gA, row, hle, nb, hH, gH, e1, g1, n1, n2, w1]
      exact ih (i + 1) now nv _ _ (by omega) (by omega) hr xx (hs.ext xy) hfr (by simp only [go_sem, seval, f4]) (by simp only [go_sem, seval, f10, hv']) (by simp only [go_sem, seval, f11]) (by simp only [go_sem, seval])
    | true =>
      rw [if_neg (by decide)] at hr
      have ret : ¬ (d.ans.err = ae ∧ d.ans.found = af ∧ d.ans.value = av ∧ d.ans.ln = 0) → R = (now, (i : Int)) := fun q => by rw [if_neg q] at hr; exact hr.symm
      by_cases c1 : d.ans.err = ae
      case neg =>
        have hR := ret fun q => c1 q.1
        simp only [go_sem, seval, f4, f10, f11, f12, i0, i1, gA, row, hle, nb, hH, gH, e1, g1, n1, n2, c1]
        refine hQ1 _ _ nv i xx (by rw [hR]) (by rw [hR]; exact hs.ext xy) hfr ?_ ?_ <;> simp only [go_sem, seval, f4]
      have d1 : decide (d.ans.err = ae) = true := decide_eq_true c1
      cases c2 : (d.ans.found == af) with
      | false =>
        have hR := ret fun q => by rw [q.2.1] at c2; simp at c2
        simp only [go_sem, seval, f4, f10, f11, f12, i0, i1, gA, row, hle, nb, hH, gH, e1, g1, n1, n2, d1, c2]
        refine hQ1 _ _ nv i xx (by rw [hR]) (by rw [hR]; exact hs.ext xy) hfr ?_ ?_ <;> simp only [go_sem, seval, f4]
      | true =>
        by_cases c3 : d.ans.value = av
        case neg =>
          have hR := ret fun q => c3 q.2.2.1
          simp only [go_sem, seval, f4, f10, f11, f12, i0, i1, gA, row, hle, nb, hH, gH, e1, g1, n1, n2, d1, c2, c3]
          refine hQ1 _ _ nv i xx (by rw [hR]) (by rw [hR]; exact hs.ext xy) hfr ?_ ?_ <;> simp only [go_sem, seval, f4]
        have d3 : decide (d.ans.value = av) = true := decide_eq_true c3
        by_cases c4 : d.ans.ln = 0
        case neg =>
          have hR := ret fun q => c4 q.2.2.2
          have c4' : (0 : Int) < (d.ans.ln : Int) := by omega
          simp only [go_sem, seval, f4, f10, f11, f12, i0, i1, gA, row, hle, nb, hH, gH, e1, g1, n1, n2, d1, c2, d3, c4']
          refine hQ1 _ _ nv i xx (by rw [hR]) (by rw [hR]; exact hs.ext xy) hfr ?_ ?_ <;> simp only [go_sem, seval, f4]
        have c4' : ¬ (0 : Int) < (d.ans.ln : Int) := by omega
        have c2' : d.ans.found = af := by simpa using c2
        rw [if_pos ⟨c1, c2', c3, c4⟩] at hr
        simp only [go_sem, seval, f4, f10, f11, f12, i0, i1, gA, row, hle, nb, hH, gH, e1, g1, n1, n2, w1, d1, c2, d3, c4']
        refine ih (i + 1) nx v1 _ _ (by omega) (by omega) hr xx (s1.ext xz) (fun b hb => (fr1 b hb).elim (hfr b) fun q => Nat.le_trans (hE.trans xH).next q) ?_ ?_ ?_ ?_ <;> simp only [go_sem, seval, f10, f11, hv']

theorem Replay_K (h : NHeap) (v : NVal) (ds : List Done) (hd : Dones h v ds) (hl : ds.length < 2 ^ 28) :
    ∃ nv h', K env 10 [v] h = some (.tuple [nv, .int .i64 (replay [] ds 0).2], h') ∧ Ext h h' ∧ Ents h' nv (replay [] ds 0).1 ∧ ∀ b ∈ blk nv, h.next ≤ b := by
  obtain ⟨bo, c, xq, hv⟩ := hd.form
  rw [k10 _ _ (by simp)]
  simp only [bodyOf, Option.getD_some, go_sem, seval, Try.f10, hv]
  have key := fun rest => loopR h v ds hd hl (replay [] ds 0) (fun r => ∃ nv h', outF Try.prog [.tmp 2, .tmp 3] (thenD env (blockC 0 r) rest) = some (.tuple [nv, .int .i64 (replay [] ds 0).2], h') ∧ Ext h h' ∧ Ents h' nv (replay [] ds 0).1 ∧ ∀ b ∈ blk nv, h.next ≤ b)
  refine key _ ?_ ?_ ds.length 0 [] (.slice none 0 0 none) h _ (by omega) (by simp) (by simp) (Ext.refl _) (Sl.nil _ _) (by simp [blk]) ?_ ?_ ?_ ?_
  · intro h' F nv i hE hR hs hfr f2 f3
    refine ⟨nv, h', ?_, hE, hs, hfr⟩
    simp only [go_sem, seval, f2, f3, hR]
  · intro h' F nv hE hR hs hfr f4
    refine ⟨nv, h', ?_, hE, hs, hfr⟩
    simp only [go_sem, seval, f4, hR]
  · simp only [go_sem, seval]
  · simp only [go_sem, seval, hv]
  · simp only [go_sem, seval]
  · simp only [go_sem, seval]

/-! Order -/
def okPair (over : Nat) (d a : Done) : Bool := !(a.begin == d.begin) && !decide ((over : Int) < a.begin)
def okAt (hs : List Ev) (ds : List Done) (i : Nat) (d : Done) : Bool := began hs d && (ds.take i).all (okPair (fin hs d) d)
def ordF (hs : List Ev) (ds : List Done) : List Done → Nat → Bool
  | [], _ => true
  | d :: r, i => okAt hs ds i d && ordF hs ds r (i + 1)
theorem began_lt {hs : List Ev} {d : Done} (h : began hs d = true) : 0 ≤ d.begin ∧ d.begin < (hs.length : Int) := by
  simp only [began, Bool.and_eq_true, decide_eq_true_eq] at h
  obtain ⟨h0, h1⟩ := h
  cases hq : hs[d.begin.toNat]? with
  | none => rw [hq] at h1; cases h1
  | some e =>
    have := (List.getElem?_eq_some_iff.1 hq).1
    omega

noncomputable def lbO : Code := inC (inC (atC (bodyOf Try.f12) 2))
noncomputable def lbP : Code := inC (inC (atC (inC (atC lbO 2)) 5))

theorem drop_at {α : Type} {l : List α} {i : Nat} {a : α} (h : l[i]? = some a) : l.drop i = a :: l.drop (i + 1) := by
  have hi := (List.getElem?_eq_some_iff.1 h).1
  rw [List.drop_eq_getElem_cons hi]
  congr 1
  rw [List.getElem?_eq_getElem hi] at h
  exact Option.some.inj h

theorem loopP (hA : NHeap) (v2 : NVal) (ps : List Done) (hd : Dones hA v2 ps) (hl : ps.length < 2 ^ 40) (d : Done) (pd : Nat) (md) (gd : hA.get pd = some (.cells d.c md)) (over : Nat) (F0 : Fr) (f26 : F0 26 = v2) (f27 : F0 27 = .int .i64 ps.length) (f6 : F0 6 = .ptr (some (pd, 0))) (f7 : F0 7 = .int .i64 over) (Q : Out → Prop)
    (hQ1 : ∀ (h : NHeap) (F : Fr), Ext hA h → ps.all (okPair over d) = false → F 4 = .bool false → Q (some (.ret, toL 45 F, h)))
    (hQ2 : ∀ (h : NHeap) (F : Fr), Ext hA h → ps.all (okPair over d) = true → Keep [0, 1, 5, 6, 7, 10, 11, 12, 26, 27] F0 F → Q (some (.exit 2, toL 45 F, h))) :
    ∀ (f j : Nat) (h : NHeap) (F : Fr), j + f = ps.length → (ps.drop j).all (okPair over d) = ps.all (okPair over d) → Ext hA h → Keep [0, 1, 5, 6, 7, 10, 11, 12, 26, 27] F0 F → F 28 = .int .i64 j → Q (C env (.loop lbP) (toL 45 F) h) := by
  intro f
  induction f with
  | zero =>
    intro j h F hj hk hE kp f28
    have : j = ps.length := by omega
    subst this
    have f27' := (kp 27 rfl).trans f27
    rw [S_loop]
    conv => arg 1; arg 2; arg 2; simp only [lbP, lbO, bodyOf, Option.getD_some, atC, seqL, inC, elC, List.nil_append, List.cons_append, List.getElem?_cons_succ, List.getElem?_cons_zero, Try.f12]
    simp only [go_sem, seval, f27', f28]
    refine hQ2 h _ hE (by rw [← hk, List.drop_length]; rfl) ?_
    repeat (first | exact kp | refine Keep.upd ?_ rfl)
  | succ f ih =>
    intro j h F hj hk hE kp f28
    have f26' := (kp 26 rfl).trans f26
    have f27' := (kp 27 rfl).trans f27
    have f6' := (kp 6 rfl).trans f6
    have f7' := (kp 7 rfl).trans f7
    obtain ⟨a, haj⟩ : ∃ a, ps[j]? = some a := ⟨ps[j]'(by omega), List.getElem?_eq_getElem (by omega)⟩
    obtain ⟨b, o, c', x', all, mm, hv', gA, row, hle⟩ := Sl.elem Done.len (hd.ext hE) haj
    have i0 : (0 : Int) ≤ (j : Int) := by omega
    have i1 : (j : Int) < (ps.length : Int) := by omega
    have w1 : IntKind.i64.wrap ((j : Int) + 1) = ((j + 1 : Nat) : Int) := by rw [wrap_i64_small (by omega) (by omega)]; omega
    have nb : ¬ b = h.next := by have := NHeap.get_lt gA; omega
    have gd' := hE.get gd
    have nd' : ¬ pd = h.next := by have := NHeap.get_lt gd'; omega
    rw [drop_at haj, List.all_cons] at hk
    have stop : okPair over d a = false → ps.all (okPair over d) = false := fun q => by rw [← hk, q]; rfl
    have xx : Ext hA ((h.alloc (.cells [.int .i64 0, .int .i64 0, .int .i64 0, .str [], .str [], .int .i64 0, .int .i64 0, .bool false, .int .i64 0, .slice none 0 0 none] (.own (some (40, 10))))).set h.next (.cells a.c (.own (some (40, 10))))) := (hE.alloc _).set hE.next _
    rw [hv'] at f26'
    rw [S_loop]
    conv => arg 1; arg 2; arg 2; simp only [lbP, lbO, bodyOf, Option.getD_some, atC, seqL, inC, elC, List.nil_append, List.cons_append, List.getElem?_cons_succ, List.getElem?_cons_zero, Try.f12]
    by_cases c1 : a.begin = d.begin
    · simp only [go_sem, seval, f26', f27', f6', f7', f28, i0, i1, gA, row, hle, nb, gd', nd', c1]
      refine hQ1 _ _ ?_ (stop (by simp [okPair, c1])) (by simp only [go_sem, seval])
      exact xx
    · by_cases c2 : (over : Int) < a.begin
      · simp only [go_sem, seval, f26', f27', f6', f7', f28, i0, i1, gA, row, hle, nb, gd', nd', c1, c2]
        exact hQ1 _ _ xx (stop (by simp [okPair, c2])) (by simp only [go_sem, seval])
      · simp only [go_sem, seval, f26', f27', f6', f7', f28, i0, i1, gA, row, hle, nb, gd', nd', c1, c2, w1]
        refine ih (j + 1) _ _ (by omega) ?_ xx ?_ (by simp only [go_sem, seval])
        · rw [← hk]
          have : okPair over d a = true := by simp [okPair, c1]; omega
          rw [this]; rfl
        · repeat (first | exact kp | refine Keep.upd ?_ rfl)

theorem loopO (hA : NHeap) (hv : NVal) (hs : List Ev) (he : Evs hA hv hs) (hhl : hs.length < 2 ^ 39) (v : NVal) (ds : List Done) (hd : Dones hA v ds) (hl : ds.length < 2 ^ 28) (R : Bool) (Q : Out → Prop)
    (hQ1 : ∀ (h : NHeap) (F : Fr), Ext hA h → R = false → F 4 = .bool false → Q (some (.ret, toL 45 F, h)))
    (hQ2 : ∀ (h : NHeap) (F : Fr), Ext hA h → R = true → Q (some (.exit 0, toL 45 F, h))) :
    ∀ (f i : Nat) (h : NHeap) (F : Fr), i + f = ds.length → ordF hs ds (ds.drop i) i = R → Ext hA h → F 0 = hv → F 1 = v → F 10 = v → F 11 = .int .i64 ds.length → F 12 = .int .i64 i → Q (C env (.loop lbO) (toL 45 F) h) := by
  intro f
  induction f with
  | zero =>
    intro i h F hi hr hE f0 f1 f10 f11 f12
    have : i = ds.length := by omega
    subst this
    rw [List.drop_length, ordF] at hr
    rw [S_loop]
    conv => arg 1; arg 2; arg 2; simp only [lbO, bodyOf, Option.getD_some, atC, seqL, inC, elC, List.nil_append, List.cons_append, List.getElem?_cons_succ, List.getElem?_cons_zero, Try.f12]
    simp only [go_sem, seval, f11, f12]
    exact hQ2 h _ hE hr.symm
  | succ f ih =>
    intro i h F hi hr hE f0 f1 f10 f11 f12
    obtain ⟨d, hdi⟩ : ∃ d, ds[i]? = some d := ⟨ds[i]'(by omega), List.getElem?_eq_getElem (by omega)⟩
    have hdh := hd.ext hE
    obtain ⟨b, o, c', x', all, mm, hv', gA, row, hle⟩ := Sl.elem Done.len hdh hdi
    have i0 : (0 : Int) ≤ (i : Int) := by omega
    have i1 : (i : Int) < (ds.length : Int) := by omega
    have w1 : IntKind.i64.wrap ((i : Int) + 1) = ((i + 1 : Nat) : Int) := by rw [wrap_i64_small (by omega) (by omega)]; omega
    rw [drop_at hdi, ordF] at hr
    have nb : ¬ b = h.next := by have := NHeap.get_lt gA; omega
    obtain ⟨H, hH⟩ : ∃ H, (h.alloc (.cells [.int .i64 0, .int .i64 0, .int .i64 0, .str [], .str [], .int .i64 0, .int .i64 0, .bool false, .int .i64 0, .slice none 0 0 none] (.own (some (40, 10))))).set h.next (.cells d.c (.own (some (40, 10)))) = H := ⟨_, rfl⟩
    have xH : Ext h H := by rw [← hH]; exact ((Ext.refl h).alloc _).set (Nat.le_refl _) _
    have gH : H.get h.next = some (.cells d.c (.own (some (40, 10)))) := by rw [← hH]; exact NHeap.get_set_same (by simp)
    obtain ⟨h1, e1, x1⟩ := began_K H hv hs (he.ext (hE.trans xH)) d
    have xx := (hE.trans xH).trans x1
    have g1 := x1.get gH
    simp only [Done.c] at hH gH e1 row g1
    rw [hv'] at f10 f1
    rw [S_loop]
    cases hb : began hs d with
    | false =>
      rw [hb] at e1
      have hR : R = false := by rw [← hr, okAt, hb]; rfl
      conv => arg 1; arg 2; arg 2; simp only [lbO, bodyOf, Option.getD_some, atC, seqL, inC, elC, List.nil_append, List.cons_append, List.getElem?_cons_succ, List.getElem?_cons_zero, Try.f12]
      simp only [go_sem, seval, f0, f1, f10, f11, f12, i0, i1, gA, row, hle, nb, hH, gH, e1]
      exact hQ1 _ _ xx hR (by simp only [go_sem, seval])
    | true =>
      rw [hb] at e1
      obtain ⟨b0, b1⟩ := began_lt hb
      obtain ⟨h2, e2, x2⟩ := end_K h1 hv hs (he.ext xx) (by omega) d (by omega) (by omega)
      obtain ⟨v2, e3, s3⟩ := Sl.take (P := Try.prog) (hd.ext (xx.trans x2)) Try.underlying24 sz40 .i64 i (by omega)
      have g2 := x2.get g1
      obtain ⟨bo3, c3, x3, hv3⟩ := s3.form
      have s3' : Dones h2 v2 (ds.take i) := by
        have hli : (ds.take i).length = i := by simp; omega
        rw [Dones, Rw, hli]
        rw [rows_take Done.len] at s3
        exact s3
      simp only [Done.c] at e2
      rw [hv'] at e3
      rw [hv3] at e3 s3'
      conv => arg 1; arg 2; arg 2; simp only [lbO, bodyOf, Option.getD_some, atC, seqL, inC, elC, List.nil_append, List.cons_append, List.getElem?_cons_succ, List.getElem?_cons_zero, Try.f12]
      simp only [go_sem, seval, f0, f1, f10, f11, f12, i0, i1, gA, row, hle, nb, hH, gH, e1, g1, e2, e3]
      have hli : (ds.take i).length = i := by simp; omega
      have key := fun r1 r2 F1 q1 q2 q3 q4 => loopP h2 _ (ds.take i) s3' (by omega) d h.next _ g2 (fin hs d) F1 q1 q2 q3 q4 (fun r => Q (thenD env (thenD env (blockC 1 (blockC 2 r)) r1) r2))
      refine key _ _ _ ?_ ?_ ?_ ?_ ?_ ?_ i 0 h2 _ (by omega) (by simp) (Ext.refl _) (Keep.refl _ _) ?_
      · simp only [go_sem, seval]
      · simp only [go_sem, seval, hli]
      · simp only [go_sem, seval]
      · simp only [go_sem, seval]
      · intro h3 F3 hE3 hq f4
        simp only [go_sem, seval]
        exact hQ1 _ _ ((xx.trans x2).trans hE3) (by rw [← hr, okAt, hq]; simp) f4
      · intro h3 F3 hE3 hq kp
        have k0 := kp 0 rfl
        have k1 := kp 1 rfl
        have k10 := kp 10 rfl
        have k11 := kp 11 rfl
        have k12 := kp 12 rfl
        simp only [go_sem, seval, f0, f1, f10, f11, f12] at k0 k1 k10 k11 k12
        simp only [go_sem, seval, k12, w1]
        refine ih (i + 1) h3 _ (by omega) ?_ ((xx.trans x2).trans hE3) ?_ ?_ ?_ ?_ ?_
        · rw [← hr, okAt, hb, hq]; rfl
        all_goals simp only [go_sem, seval, k0, k1, k10, k11, hv']
      · simp only [go_sem, seval]

theorem Order_K (h : NHeap) (hv : NVal) (hs : List Ev) (he : Evs h hv hs) (hhl : hs.length < 2 ^ 39) (v : NVal) (ds : List Done) (hd : Dones h v ds) (hl : ds.length < 2 ^ 28) :
    ∃ h', K env 12 [hv, v] h = some (.bool (ordF hs ds ds 0), h') ∧ Ext h h' := by
  obtain ⟨bo, c, xq, hvv⟩ := hd.form
  rw [k12 _ _ (by simp)]
  simp only [bodyOf, Option.getD_some, go_sem, seval, Try.f12, hvv]
  have key := fun rest => loopO h hv hs he hhl v ds hd hl (ordF hs ds ds 0) (fun r => ∃ h', outF Try.prog [.tmp 4] (thenD env (blockC 0 r) rest) = some (.bool (ordF hs ds ds 0), h') ∧ Ext h h')
  refine key _ ?_ ?_ ds.length 0 h _ (by omega) (by simp) (Ext.refl _) ?_ ?_ ?_ ?_ ?_
  · intro h' F hE hR f4
    refine ⟨h', ?_, hE⟩
    simp only [go_sem, seval, f4, hR]
  · intro h' F hE hR
    refine ⟨h', ?_, hE⟩
    simp only [go_sem, seval, hR]
  all_goals simp only [go_sem, seval, hvv]
end lin
end Go.Proofs.Ytblhpikljhholaa.S

namespace Go.Proofs.Ytblhpikljhholaa.S
open Go Go.RowKit Go.Proofs.Ytblhpikljhholaa.NICE
set_option maxRecDepth 100000
set_option linter.unusedSimpArgs false
set_option linter.unusedVariables false
namespace lin
open shape

theorem entL (e : Ent) : [NVal.str e.1, .int .i64 e.2].length = 2 := rfl
theorem entO (e : Ent) : allOne [NVal.str e.1, .int .i64 e.2] = true := rfl

/-! ordered -/
def riseF (o : Op) : Option (List UInt8) → List Ent → Bool
  | _, [] => true
  | p, e :: r => (inOp o e.1 && (match p with | none => true | some p => !(Op.bytesLess e.1 p || e.1 == p))) && riseF o (some e.1) r
theorem riseF_nil (o : Op) (p) : riseF o p [] = true := by cases p <;> rfl
theorem riseF_cons (o : Op) (p) (e : Ent) (r) : riseF o p (e :: r) = ((inOp o e.1 && (match p with | none => true | some p => !(Op.bytesLess e.1 p || e.1 == p))) && riseF o (some e.1) r) := by cases p <;> rfl
def ordered (d : Done) (tl : List Ent) : Bool := riseF d.op none tl && decide ((tl.length : Int) ≤ d.op.v)

noncomputable def lbD : Code := inC (inC (atC (bodyOf Try.f22) 2))

/-- the term ahead of a place -/
def prevOf (tl : List Ent) : Nat → Option (List UInt8)
  | 0 => none
  | i + 1 => tl[i]?.map (·.1)

theorem loopD (hA : NHeap) (d : Done) (tl : List Ent) (ht : Ents hA (.slice d.ans.lb d.ans.ln d.ans.lc d.ans.lx) tl) (hl : tl.length < 2 ^ 40) (pd : Nat) (md) (gd : hA.get pd = some (.cells d.c md)) (F0 : Fr) (f1 : F0 1 = .ptr (some (pd, 0))) (f7 : F0 7 = .slice d.ans.lb d.ans.ln d.ans.lc d.ans.lx) (f8 : F0 8 = .int .i64 tl.length) (R : Bool) (Q : Out → Prop)
    (hQ1 : ∀ (h : NHeap) (F : Fr), Ext hA h → R = false → F 2 = .bool false → Q (some (.ret, toL 46 F, h)))
    (hQ2 : ∀ (h : NHeap) (F : Fr), Ext hA h → R = true → Keep [1, 7, 8] F0 F → Q (some (.exit 0, toL 46 F, h))) :
    ∀ (f i : Nat) (h : NHeap) (F : Fr), i + f = tl.length → riseF d.op (prevOf tl i) (tl.drop i) = R → Ext hA h → Keep [1, 7, 8] F0 F → F 9 = .int .i64 i → Q (C env (.loop lbD) (toL 46 F) h) := by
  intro f
  induction f with
  | zero =>
    intro i h F hi hr hE kp f9
    have : i = tl.length := by omega
    subst this
    have f8' := (kp 8 rfl).trans f8
    rw [List.drop_length, riseF_nil] at hr
    rw [S_loop]
    conv => arg 1; arg 2; arg 2; simp only [lbD, bodyOf, Option.getD_some, atC, seqL, inC, elC, List.nil_append, List.cons_append, List.getElem?_cons_succ, List.getElem?_cons_zero, Try.f22]
    simp only [go_sem, seval, f8', f9]
    refine hQ2 h _ hE hr.symm ?_
    repeat (first | exact kp | refine Keep.upd ?_ rfl)
  | succ f ih =>
    intro i h F hi hr hE kp f9
    have f1' := (kp 1 rfl).trans f1
    have f7' := (kp 7 rfl).trans f7
    have f8' := (kp 8 rfl).trans f8
    obtain ⟨e, hei⟩ : ∃ e, tl[i]? = some e := ⟨tl[i]'(by omega), List.getElem?_eq_getElem (by omega)⟩
    have hth := ht.ext hE
    obtain ⟨b, o, c', x', all, mm, hv', gA, row, hle⟩ := Sl.elem entL hth hei
    have i0 : (0 : Int) ≤ (i : Int) := by omega
    have i1 : (i : Int) < (tl.length : Int) := by omega
    have w1 : IntKind.i64.wrap ((i : Int) + 1) = ((i + 1 : Nat) : Int) := by rw [wrap_i64_small (by omega) (by omega)]; omega
    rw [drop_at hei, riseF_cons] at hr
    have nb : ¬ b = h.next := by have := NHeap.get_lt gA; omega
    obtain ⟨H, hH⟩ : ∃ H, (h.alloc (.cells [.str [], .int .i64 0] (.own (some (35, 2))))).set h.next (.cells [.str e.1, .int .i64 e.2] (.own (some (35, 2)))) = H := ⟨_, rfl⟩
    have xH : Ext h H := by rw [← hH]; exact ((Ext.refl h).alloc _).set (Nat.le_refl _) _
    have gH : H.get h.next = some (.cells [.str e.1, .int .i64 e.2] (.own (some (35, 2)))) := by rw [← hH]; exact NHeap.get_set_same (by simp)
    obtain ⟨h1, e1, x1⟩ := in_K d.op e.1 H
    have xx := xH.trans x1
    have g1 := x1.get gH
    have gd' := (hE.trans xx).get gd
    have gdH := (hE.trans xH).get gd
    have gA1 := xx.get gA
    have n1 := x1.next
    have hk : ∀ F' : Fr, Keep [1, 7, 8] F0 F' → Keep [1, 7, 8] F0 F' := fun _ q => q
    have np : prevOf tl (i + 1) = some e.1 := by simp [prevOf, hei]
    rw [hv'] at f7'
    simp only [NVal.slice.injEq] at hv'
    obtain ⟨v1, v2, v3, v4⟩ := hv'
    simp only [Done.c, v1, v2, v3, v4] at gd gd' gdH
    rw [S_loop]
    conv => arg 1; arg 2; arg 2; simp only [lbD, bodyOf, Option.getD_some, atC, seqL, inC, elC, List.nil_append, List.cons_append, List.getElem?_cons_succ, List.getElem?_cons_zero, Try.f22]
    cases hin : inOp d.op e.1 with
    | false =>
      rw [hin] at e1 hr
      simp only [go_sem, seval, f1', f7', f8', f9, i0, i1, gA, row, hle, nb, hH, gH, e1, gdH, gd', n1]
      exact hQ1 _ _ (hE.trans xx) (by rw [← hr]; rfl) (by simp only [go_sem, seval])
    | true =>
      rw [hin] at e1 hr
      by_cases hz : i = 0
      · have pn : prevOf tl i = none := by rw [hz]; rfl
        rw [pn] at hr
        simp only [Bool.true_and] at hr
        have z : ¬ (0 : Int) < (i : Int) := by omega
        simp only [go_sem, seval, f1', f7', f8', f9, i0, i1, gA, row, hle, nb, hH, gH, e1, gdH, gd', n1, z, w1]
        refine ih (i + 1) _ _ (by omega) (by rw [np]; exact hr) (hE.trans xx) ?_ ?_
        · repeat (first | exact kp | refine Keep.upd ?_ rfl)
        · simp only [go_sem, seval]
      · obtain ⟨j, hj⟩ : ∃ j, i = j + 1 := ⟨i - 1, by omega⟩
        obtain ⟨p, hpj⟩ : ∃ p, tl[j]? = some p := ⟨tl[j]'(by omega), List.getElem?_eq_getElem (by omega)⟩
        have hthH := ht.ext (hE.trans xx)
        obtain ⟨b2, o2, c2, x2, all2, mm2, hv2, gA2, row2, hle2⟩ := Sl.elem entL hthH hpj
        have q0 := rowcell (j := 0) row2 rfl
        simp only [Nat.add_zero] at q0
        simp only [NVal.slice.injEq] at hv2
        obtain ⟨u1, u2, u3, u4⟩ := hv2
        have hbo : some (b, o) = some (b2, o2) := by rw [← v1, ← u1]
        cases hbo
        have z : (0 : Int) < (i : Int) := by omega
        have wj : IntKind.i64.wrap ((i : Int) - 1) = (j : Int) := by rw [wrap_i64_small (by omega) (by omega)]; omega
        have j0 : (0 : Int) ≤ (j : Int) := by omega
        have j1 : (j : Int) < (tl.length : Int) := by omega
        have pn : prevOf tl i = some p.1 := by rw [hj]; simp [prevOf, hpj]
        rw [pn] at hr
        simp only [Bool.true_and] at hr
        cases hlq : (Op.bytesLess e.1 p.1 || e.1 == p.1) with
        | true =>
          rw [hlq] at hr
          simp only [go_sem, seval, f1', f7', f8', f9, i0, i1, gA, row, hle, nb, hH, gH, e1, g1, gdH, gd', n1, z, wj, j0, j1, gA2, q0, hlq]
          exact hQ1 _ _ (hE.trans xx) (by rw [← hr]; rfl) (by simp only [go_sem, seval])
        | false =>
          rw [hlq] at hr
          simp only [go_sem, seval, f1', f7', f8', f9, i0, i1, gA, row, hle, nb, hH, gH, e1, g1, gdH, gd', n1, z, wj, j0, j1, gA2, q0, hlq, w1]
          refine ih (i + 1) _ _ (by omega) (by rw [np]; exact hr) (hE.trans xx) ?_ (by simp only [go_sem, seval])
          repeat (first | exact kp | refine Keep.upd ?_ rfl)

theorem ordered_K (h : NHeap) (d : Done) (tl : List Ent) (ht : Ents h (.slice d.ans.lb d.ans.ln d.ans.lc d.ans.lx) tl) (hl : tl.length < 2 ^ 40) : ∃ h', K env 22 [.agg d.c] h = some (.bool (ordered d tl), h') ∧ Ext h h' := by
  obtain ⟨H, hH⟩ : ∃ H, h.alloc (.cells d.c (.own none)) = H := ⟨_, rfl⟩
  have x0 : Ext h H := by rw [← hH]; exact (Ext.refl h).alloc _
  have g0 : H.get h.next = some (.cells d.c (.own none)) := by rw [← hH]; simp [NHeap.get_alloc]
  have hn : d.ans.ln = tl.length := by
    obtain ⟨_, bo, c', x', q1, _⟩ := ht
    simp only [NVal.slice.injEq] at q1
    exact q1.2.1
  have g0' := g0
  simp only [Done.c] at hH g0'
  rw [k22 _ _ (by simp)]
  simp only [bodyOf, Option.getD_some, go_sem, seval, Try.f22, hH, g0']
  have key := fun rest F q1 q2 q3 => loopD H d tl (ht.ext x0) hl h.next _ g0 F q1 q2 q3 (riseF d.op none tl) (fun r => ∃ h', outF Try.prog [.tmp 2] (thenD env (blockC 0 r) rest) = some (.bool (ordered d tl), h') ∧ Ext h h')
  refine key _ _ ?_ ?_ ?_ ?_ ?_ tl.length 0 H _ (by omega) (by simp [prevOf]) (Ext.refl _) (Keep.refl _ _) ?_
  · simp only [go_sem, seval]
  · simp only [go_sem, seval]
  · simp only [go_sem, seval, hn]
  · intro h' F hE hR f2
    refine ⟨h', ?_, x0.trans hE⟩
    simp only [go_sem, seval, f2, ordered, hR]
  · intro h' F hE hR kp
    have k1 := kp 1 rfl
    simp only [go_sem, seval] at k1
    have g1 := hE.get g0'
    refine ⟨h', ?_, x0.trans hE⟩
    simp only [go_sem, seval, k1, g1, ordered, hR, hn]
  · simp only [go_sem, seval]

/-! moments -/
def momA (hs : List Ev) (d : Done) : List Done → Nat → Nat → Nat
  | [], _, acc => acc
  | x :: r, i, acc => momA hs d r (i + 1) (if (fin hs x : Int) < d.begin then i + 1 else acc)
def momB (over : Nat) : List Done → Nat → Nat → Nat
  | [], _, acc => acc
  | x :: r, i, acc => momB over r (i + 1) (if x.begin < (over : Int) then max acc (i + 1) else acc)
theorem momA_le (hs : List Ev) (d : Done) : ∀ (l : List Done) (i acc : Nat), acc ≤ i → momA hs d l i acc ≤ i + l.length
  | [], i, acc, h => by simpa [momA] using h
  | x :: r, i, acc, h => by
    unfold momA
    have := momA_le hs d r (i + 1) (if (fin hs x : Int) < d.begin then i + 1 else acc) (by split <;> omega)
    simp at this ⊢; omega
theorem momB_le (over : Nat) : ∀ (l : List Done) (i acc n : Nat), acc ≤ n → i + l.length ≤ n → momB over l i acc ≤ n
  | [], i, acc, n, h, _ => by simpa [momB] using h
  | x :: r, i, acc, n, h, h2 => by
    unfold momB
    simp only [List.length_cons] at h2
    exact momB_le over r (i + 1) _ n (by split <;> omega) (by omega)
theorem momB_ge (over : Nat) : ∀ (l : List Done) (i acc : Nat), acc ≤ momB over l i acc
  | [], i, acc => Nat.le_refl _
  | x :: r, i, acc => by
    unfold momB
    exact Nat.le_trans (by split <;> omega) (momB_ge over r (i + 1) _)

noncomputable def lbA : Code := inC (inC (atC (bodyOf Try.f23) 3))
noncomputable def lbB : Code := inC (inC (atC (bodyOf Try.f23) 6))

theorem loopA (hA : NHeap) (hv : NVal) (hs : List Ev) (he : Evs hA hv hs) (hhl : hs.length < 2 ^ 39) (v : NVal) (ds : List Done) (hd : Dones hA v ds) (hl : ds.length < 2 ^ 28) (hbd : ∀ x ∈ ds, -2 ^ 40 < x.begin ∧ x.begin < 2 ^ 40) (d : Done) (pd : Nat) (md) (gd : hA.get pd = some (.cells d.c md))
    (F0 : Fr) (f0 : F0 0 = hv) (f5 : F0 5 = .ptr (some (pd, 0))) (f18 : F0 18 = v) (f19 : F0 19 = .int .i64 ds.length) (R : Nat) (Q : Out → Prop)
    (hQ : ∀ (h : NHeap) (F : Fr), Ext hA h → Keep [0, 1, 5, 9, 18, 19] F0 F → F 8 = .int .i64 R → Q (some (.exit 0, toL 53 F, h))) :
    ∀ (f i acc : Nat) (h : NHeap) (F : Fr), i + f = ds.length → acc ≤ i → momA hs d (ds.drop i) i acc = R → Ext hA h → Keep [0, 1, 5, 9, 18, 19] F0 F → F 8 = .int .i64 acc → F 20 = .int .i64 i → Q (C env (.loop lbA) (toL 53 F) h) := by
  intro f
  induction f with
  | zero =>
    intro i acc h F hi ha hr hE kp f8 f20
    have : i = ds.length := by omega
    subst this
    have f19' := (kp 19 rfl).trans f19
    rw [List.drop_length, momA] at hr
    rw [S_loop]
    conv => arg 1; arg 2; arg 2; simp only [lbA, bodyOf, Option.getD_some, atC, seqL, inC, elC, List.nil_append, List.cons_append, List.getElem?_cons_succ, List.getElem?_cons_zero, Try.f23]
    simp only [go_sem, seval, f19', f20, f8]
    refine hQ h _ hE ?_ (by simp only [go_sem, seval, f8, hr])
    repeat (first | exact kp | refine Keep.upd ?_ rfl)
  | succ f ih =>
    intro i acc h F hi ha hr hE kp f8 f20
    have f0' := (kp 0 rfl).trans f0
    have f5' := (kp 5 rfl).trans f5
    have f18' := (kp 18 rfl).trans f18
    have f19' := (kp 19 rfl).trans f19
    obtain ⟨x, hxi⟩ : ∃ x, ds[i]? = some x := ⟨ds[i]'(by omega), List.getElem?_eq_getElem (by omega)⟩
    obtain ⟨b, o, c', x', all, mm, hv', gA, row, hle⟩ := Sl.elem Done.len (hd.ext hE) hxi
    have i0 : (0 : Int) ≤ (i : Int) := by omega
    have i1 : (i : Int) < (ds.length : Int) := by omega
    have w1 : IntKind.i64.wrap ((i : Int) + 1) = ((i + 1 : Nat) : Int) := by rw [wrap_i64_small (by omega) (by omega)]; omega
    rw [drop_at hxi, momA] at hr
    have nb : ¬ b = h.next := by have := NHeap.get_lt gA; omega
    obtain ⟨H, hH⟩ : ∃ H, (h.alloc (.cells [.int .i64 0, .int .i64 0, .int .i64 0, .str [], .str [], .int .i64 0, .int .i64 0, .bool false, .int .i64 0, .slice none 0 0 none] (.own (some (40, 10))))).set h.next (.cells x.c (.own (some (40, 10)))) = H := ⟨_, rfl⟩
    have xH : Ext h H := by rw [← hH]; exact ((Ext.refl h).alloc _).set (Nat.le_refl _) _
    have gH : H.get h.next = some (.cells x.c (.own (some (40, 10)))) := by rw [← hH]; exact NHeap.get_set_same (by simp)
    obtain ⟨bd0, bd1⟩ := hbd x (List.mem_of_getElem? hxi)
    obtain ⟨h1, e1, x1⟩ := end_K H hv hs (he.ext (hE.trans xH)) (by omega) x bd1 bd0
    have g1 := x1.get gH
    have gdH := (hE.trans xH).get gd
    have gd1 := x1.get gdH
    have n1 := x1.next
    simp only [Done.c] at hH gH e1 row g1 gdH gd1
    rw [hv'] at f18'
    rw [S_loop]
    conv => arg 1; arg 2; arg 2; simp only [lbA, bodyOf, Option.getD_some, atC, seqL, inC, elC, List.nil_append, List.cons_append, List.getElem?_cons_succ, List.getElem?_cons_zero, Try.f23]
    by_cases c1 : (fin hs x : Int) < d.begin
    · rw [if_pos c1] at hr
      simp only [go_sem, seval, f0', f5', f18', f19', f8, f20, i0, i1, gA, row, hle, nb, hH, gH, e1, gdH, gd1, g1, n1, c1, w1]
      refine ih (i + 1) (i + 1) _ _ (by omega) (by omega) hr ((hE.trans xH).trans x1) ?_ (by simp only [go_sem, seval]) (by simp only [go_sem, seval])
      repeat (first | exact kp | refine Keep.upd ?_ rfl)
    · rw [if_neg c1] at hr
      simp only [go_sem, seval, f0', f5', f18', f19', f8, f20, i0, i1, gA, row, hle, nb, hH, gH, e1, gdH, gd1, g1, n1, c1, w1]
      refine ih (i + 1) acc _ _ (by omega) (by omega) hr ((hE.trans xH).trans x1) ?_ (by simp only [go_sem, seval, f8]) (by simp only [go_sem, seval])
      repeat (first | exact kp | refine Keep.upd ?_ rfl)

theorem loopB (hA : NHeap) (v : NVal) (ds : List Done) (hd : Dones hA v ds) (hl : ds.length < 2 ^ 28) (over : Nat) (fr : Nat)
    (F0 : Fr) (f8 : F0 8 = .int .i64 fr) (f9 : F0 9 = .int .i64 over) (f35 : F0 35 = v) (f36 : F0 36 = .int .i64 ds.length) (R : Nat) (Q : Out → Prop)
    (hQ : ∀ (h : NHeap) (F : Fr), Ext hA h → Keep [8, 9, 35, 36] F0 F → F 12 = .int .i64 R → Q (some (.exit 2, toL 53 F, h))) :
    ∀ (f i acc : Nat) (h : NHeap) (F : Fr), i + f = ds.length → acc ≤ 2 ^ 28 → momB over (ds.drop i) i acc = R → Ext hA h → Keep [8, 9, 35, 36] F0 F → F 12 = .int .i64 acc → F 37 = .int .i64 i → Q (C env (.loop lbB) (toL 53 F) h) := by
  intro f
  induction f with
  | zero =>
    intro i acc h F hi ha hr hE kp f12 f37
    have : i = ds.length := by omega
    subst this
    have f36' := (kp 36 rfl).trans f36
    rw [List.drop_length, momB] at hr
    rw [S_loop]
    conv => arg 1; arg 2; arg 2; simp only [lbB, bodyOf, Option.getD_some, atC, seqL, inC, elC, List.nil_append, List.cons_append, List.getElem?_cons_succ, List.getElem?_cons_zero, Try.f23]
    simp only [go_sem, seval, f36', f37, f12]
    refine hQ h _ hE ?_ (by simp only [go_sem, seval, f12, hr])
    repeat (first | exact kp | refine Keep.upd ?_ rfl)
  | succ f ih =>
    intro i acc h F hi ha hr hE kp f12 f37
    have f9' := (kp 9 rfl).trans f9
    have f35' := (kp 35 rfl).trans f35
    have f36' := (kp 36 rfl).trans f36
    obtain ⟨x, hxi⟩ : ∃ x, ds[i]? = some x := ⟨ds[i]'(by omega), List.getElem?_eq_getElem (by omega)⟩
    obtain ⟨b, o, c', x', all, mm, hv', gA, row, hle⟩ := Sl.elem Done.len (hd.ext hE) hxi
    have i0 : (0 : Int) ≤ (i : Int) := by omega
    have i1 : (i : Int) < (ds.length : Int) := by omega
    have w1 : IntKind.i64.wrap ((i : Int) + 1) = ((i + 1 : Nat) : Int) := by rw [wrap_i64_small (by omega) (by omega)]; omega
    rw [drop_at hxi, momB] at hr
    have nb : ¬ b = h.next := by have := NHeap.get_lt gA; omega
    have xx : Ext hA ((h.alloc (.cells [.int .i64 0, .int .i64 0, .int .i64 0, .str [], .str [], .int .i64 0, .int .i64 0, .bool false, .int .i64 0, .slice none 0 0 none] (.own (some (40, 10))))).set h.next (.cells x.c (.own (some (40, 10))))) := (hE.alloc _).set hE.next _
    rw [hv'] at f35'
    rw [S_loop]
    conv => arg 1; arg 2; arg 2; simp only [lbB, bodyOf, Option.getD_some, atC, seqL, inC, elC, List.nil_append, List.cons_append, List.getElem?_cons_succ, List.getElem?_cons_zero, Try.f23]
    by_cases c1 : x.begin < (over : Int)
    · rw [if_pos c1] at hr
      have mx : (if (acc : Int) < ((i + 1 : Nat) : Int) then ((i + 1 : Nat) : Int) else (acc : Int)) = ((max acc (i + 1) : Nat) : Int) := by split <;> omega
      simp only [go_sem, seval, f9', f35', f36', f12, f37, i0, i1, gA, row, hle, nb, c1, w1]
      simp only [mx]
      refine ih (i + 1) (max acc (i + 1)) _ _ (by omega) (by omega) hr xx ?_ (by simp only [go_sem, seval]) (by simp only [go_sem, seval])
      repeat (first | exact kp | refine Keep.upd ?_ rfl)
    · rw [if_neg c1] at hr
      simp only [go_sem, seval, f9', f35', f36', f12, f37, i0, i1, gA, row, hle, nb, c1, w1]
      refine ih (i + 1) acc _ _ (by omega) (by omega) hr xx ?_ (by simp only [go_sem, seval, f12]) (by simp only [go_sem, seval])
      repeat (first | exact kp | refine Keep.upd ?_ rfl)

def momFrom (hs : List Ev) (ds : List Done) (d : Done) : Nat := momA hs d ds 0 0
def momTo (hs : List Ev) (ds : List Done) (d : Done) : Nat := momB (fin hs d) ds 0 (momFrom hs ds d)
theorem moments_K (h : NHeap) (hv : NVal) (hs : List Ev) (he : Evs h hv hs) (hhl : hs.length < 2 ^ 39) (v : NVal) (ds : List Done) (hd : Dones h v ds) (hl : ds.length < 2 ^ 28) (hbd : ∀ x ∈ ds, -2 ^ 40 < x.begin ∧ x.begin < 2 ^ 40) (d : Done) (b0 : -2 ^ 40 < d.begin) (b1 : d.begin < 2 ^ 40) :
    ∃ h', K env 23 [hv, v, .agg d.c] h = some (.tuple [.int .i64 (momFrom hs ds d : Nat), .int .i64 (momTo hs ds d : Nat)], h') ∧ Ext h h' := by
  obtain ⟨bo, c, xq, hvv⟩ := hd.form
  obtain ⟨H, hH⟩ : ∃ H, h.alloc (.cells d.c (.own none)) = H := ⟨_, rfl⟩
  have x0 : Ext h H := by rw [← hH]; exact (Ext.refl h).alloc _
  have g0 : H.get h.next = some (.cells d.c (.own none)) := by rw [← hH]; simp [NHeap.get_alloc]
  obtain ⟨h1, e1, x1⟩ := end_K H hv hs (he.ext x0) (by omega) d b1 b0
  have xx := x0.trans x1
  have g1 := x1.get g0
  have g0' := g0
  simp only [Done.c] at hH g0' e1
  rw [k23 _ _ (by simp)]
  simp only [bodyOf, Option.getD_some, go_sem, seval, Try.f23, hvv, hH, g0', e1]
  have key := fun rest F q1 q2 q3 q4 => loopA h1 hv hs (he.ext xx) hhl v ds (hd.ext xx) hl hbd d h.next _ g1 F q1 q2 q3 q4 (momFrom hs ds d) (fun r => ∃ h', outF Try.prog [.tmp 6, .tmp 7] (thenD env (blockC 0 r) rest) = some (.tuple [.int .i64 (momFrom hs ds d : Nat), .int .i64 (momTo hs ds d : Nat)], h') ∧ Ext h h')
  refine key _ _ ?_ ?_ ?_ ?_ ?_ ds.length 0 0 h1 _ (by omega) (by omega) rfl (Ext.refl _) (Keep.refl _ _) ?_ ?_
  · simp only [go_sem, seval]
  · simp only [go_sem, seval]
  · simp only [go_sem, seval, hvv]
  · simp only [go_sem, seval]
  · intro h2 F hE kp f8
    have k1 := kp 1 rfl
    have k9 := kp 9 rfl
    simp only [go_sem, seval] at k1 k9
    simp only [go_sem, seval, f8, k1]
    have fle := momA_le hs d ds 0 0 (by omega)
    have key2 := fun rest F q1 q2 q3 q4 => loopB h2 v ds (hd.ext (xx.trans hE)) hl (fin hs d) (momFrom hs ds d) F q1 q2 q3 q4 (momTo hs ds d) (fun r => ∃ h', outF Try.prog [.tmp 6, .tmp 7] (thenD env (blockC 2 r) rest) = some (.tuple [.int .i64 (momFrom hs ds d : Nat), .int .i64 (momTo hs ds d : Nat)], h') ∧ Ext h h')
    refine key2 _ _ ?_ ?_ ?_ ?_ ?_ ds.length 0 (momFrom hs ds d) h2 _ (by omega) (by unfold momFrom; omega) rfl (Ext.refl _) (Keep.refl _ _) ?_ ?_
    · simp only [go_sem, seval, f8]
    · simp only [go_sem, seval, k9]
    · simp only [go_sem, seval, hvv]
    · simp only [go_sem, seval]
    · intro h3 F3 hE3 kp3 f12
      have k8 := kp3 8 rfl
      simp only [go_sem, seval, f8] at k8
      refine ⟨h3, ?_, (xx.trans hE).trans hE3⟩
      simp only [go_sem, seval, k8, f12]
    · simp only [go_sem, seval]
    · simp only [go_sem, seval]
  · simp only [go_sem, seval]
  · simp only [go_sem, seval]
end lin
end Go.Proofs.Ytblhpikljhholaa.S

namespace Go.Proofs.Ytblhpikljhholaa.S
open Go Go.RowKit Go.Proofs.Ytblhpikljhholaa.NICE
set_option maxRecDepth 100000
set_option linter.unusedSimpArgs false
set_option linter.unusedVariables false
namespace lin
open shape

/-- a slice of entries, as a value, and what it holds -/
structure LV where
  lb : Option (Nat × Nat)
  ln : Nat
  lc : Nat
  lx : Option Nat
  l : List Ent
abbrev LV.v (x : LV) : NVal := .slice x.lb x.ln x.lc x.lx
abbrev LV.c (x : LV) : List NVal := [.slice x.lb x.ln x.lc x.lx]
theorem LV.len (x : LV) : x.c.length = 1 := rfl
theorem LV.one (x : LV) : allOne x.c = true := rfl
def LV.ok (h : NHeap) (x : LV) : Prop := Ents h x.v x.l ∧ x.l.length < 2 ^ 28
theorem LV.ok.ext {h h' : NHeap} {x : LV} (o : x.ok h) (e : Ext h h') : x.ok h' := ⟨o.1.ext e, o.2⟩
theorem LV.ok.ln {h : NHeap} {x : LV} (o : x.ok h) : x.ln = x.l.length := by
  obtain ⟨⟨_, bo, c', x', q1, _⟩, _⟩ := o
  simp only [NVal.slice.injEq] at q1
  exact q1.2.1

def keep (l : List Ent) (out : List Ent) : List Ent := out.filter fun e => (value l e.1).2
def staysF (xs : List LV) : List Ent := match xs with
  | [] => []
  | x :: r => r.foldl (fun out y => keep y.l out) x.l
theorem keep_len (l out : List Ent) : (keep l out).length ≤ out.length := List.length_filter_le _ _

noncomputable def lbS : Code := inC (inC (atC (bodyOf Try.f29) 3))
noncomputable def lbT : Code := inC (inC (atC (inC (atC lbS 2)) 3))

theorem loopT (hA : NHeap) (ov : NVal) (out : List Ent) (ho : Ents hA ov out) (hol : out.length < 2 ^ 28) (lv : NVal) (l : List Ent) (hl : Ents hA lv l) (hll : l.length < 2 ^ 28) (F0 : Fr) (f5 : F0 5 = lv) (f21 : F0 21 = ov) (f22 : F0 22 = .int .i64 out.length) (Q : Out → Prop)
    (hQ : ∀ (h : NHeap) (F : Fr) (nv : NVal), Ext hA h → Keep [0, 5, 15, 16, 17, 21, 22] F0 F → Grow h nv 2 (entC (keep l out)) (keep l out).length → F 6 = nv → Q (some (.exit 2, toL 43 F, h))) :
    ∀ (f j : Nat) (acc : List Ent) (nv : NVal) (h : NHeap) (F : Fr), j + f = out.length → acc ++ keep l (out.drop j) = keep l out → acc.length ≤ j → Ext hA h → Keep [0, 5, 15, 16, 17, 21, 22] F0 F → Grow h nv 2 (entC acc) acc.length → (∀ b ∈ blk nv, hA.next ≤ b) → F 6 = nv → F 23 = .int .i64 j → Q (C env (.loop lbT) (toL 43 F) h) := by
  intro f
  induction f with
  | zero =>
    intro j acc nv h F hj hk ha hE kp gw hb f6 f23
    have : j = out.length := by omega
    subst this
    have f22' := (kp 22 rfl).trans f22
    have hacc : acc = keep l out := by rw [← hk, List.drop_length]; simp [keep]
    subst hacc
    rw [S_loop]
    conv => arg 1; arg 2; arg 2; simp only [lbT, lbS, bodyOf, Option.getD_some, atC, seqL, inC, elC, List.nil_append, List.cons_append, List.getElem?_cons_succ, List.getElem?_cons_zero, Try.f29]
    simp only [go_sem, seval, f22', f23]
    refine hQ h _ nv hE ?_ gw (by simp only [go_sem, seval, f6])
    repeat (first | exact kp | refine Keep.upd ?_ rfl)
  | succ f ih =>
    intro j acc nv h F hj hk ha hE kp gw hb f6 f23
    have f5' := (kp 5 rfl).trans f5
    have f21' := (kp 21 rfl).trans f21
    have f22' := (kp 22 rfl).trans f22
    obtain ⟨e, hej⟩ : ∃ e, out[j]? = some e := ⟨out[j]'(by omega), List.getElem?_eq_getElem (by omega)⟩
    obtain ⟨b, o, c', x', all, mm, hv', gA, row, hle⟩ := Sl.elem entL (ho.ext hE) hej
    have i0 : (0 : Int) ≤ (j : Int) := by omega
    have i1 : (j : Int) < (out.length : Int) := by omega
    have w1 : IntKind.i64.wrap ((j : Int) + 1) = ((j + 1 : Nat) : Int) := by rw [wrap_i64_small (by omega) (by omega)]; omega
    have nb : ¬ b = h.next := by have := NHeap.get_lt gA; omega
    rw [drop_at hej] at hk
    obtain ⟨H, hH⟩ : ∃ H, (h.alloc (.cells [.str [], .int .i64 0] (.own (some (35, 2))))).set h.next (.cells [.str e.1, .int .i64 e.2] (.own (some (35, 2)))) = H := ⟨_, rfl⟩
    have xH : Ext h H := by rw [← hH]; exact ((Ext.refl h).alloc _).set (Nat.le_refl _) _
    have gH : H.get h.next = some (.cells [.str e.1, .int .i64 e.2] (.own (some (35, 2)))) := by rw [← hH]; exact NHeap.get_set_same (by simp)
    obtain ⟨h1, e1, x1⟩ := value_K H lv l (hl.ext (hE.trans xH)) (by omega) e.1
    have g1 := x1.get gH
    have xx := xH.trans x1
    rw [hv'] at f21'
    rw [S_loop]
    conv => arg 1; arg 2; arg 2; simp only [lbT, lbS, bodyOf, Option.getD_some, atC, seqL, inC, elC, List.nil_append, List.cons_append, List.getElem?_cons_succ, List.getElem?_cons_zero, Try.f29]
    cases hval : (value l e.1).2 with
    | false =>
      rw [hval] at e1
      simp only [go_sem, seval, f5', f21', f22', f6, f23, i0, i1, gA, row, hle, nb, hH, gH, e1, w1]
      refine ih (j + 1) acc nv _ _ (by omega) ?_ (by omega) (hE.trans xx) ?_ (gw.upd (Upd.of_ext xx) (by simp)) hb (by simp only [go_sem, seval, f6]) (by simp only [go_sem, seval])
      · rw [← hk]; simp [keep, hval]
      · repeat (first | exact kp | refine Keep.upd ?_ rfl)
    | true =>
      rw [hval] at e1
      have gV : (h1.alloc (.cells [.str e.1, .int .i64 e.2] (.own none))).get h1.next = some (.cells [.str e.1, .int .i64 e.2] (.own none)) := by simp [NHeap.get_alloc]
      have xa : Ext h (h1.alloc (.cells [.str e.1, .int .i64 e.2] (.own none))) := xx.alloc _
      obtain ⟨h2, ap, n2, gw2, U2⟩ := grow_one (P := Try.prog) entL entO Try.underlying23 sz35 by35 ze35 rfl (by decide) (gw.upd (Upd.of_ext xa) (by simp)) gV (by omega) (by omega)
      simp only [go_sem, seval, f5', f21', f22', f6, f23, i0, i1, gA, row, hle, nb, hH, gH, e1, w1, g1, ap]
      have xB : Ext hA h2 := Upd.ext ((Upd.of_ext (hE.trans xa)).trans' U2 fun b hb' => .inr (hb b hb'))
      refine ih (j + 1) (acc ++ [e]) _ _ _ (by omega) ?_ (by simp; omega) xB ?_ (by rw [List.length_append]; exact gw2) ?_ (by simp only [go_sem, seval]) (by simp only [go_sem, seval])
      · rw [← hk]; simp [keep, hval]
      · repeat (first | exact kp | refine Keep.upd ?_ rfl)
      · intro b hb'
        simp [blk] at hb'
        have := (hE.trans xa).next
        simp at this
        omega

theorem loopS (hA : NHeap) (rv : NVal) (xs : List LV) (hr : Rw hA 1 LV.c rv xs) (hok : ∀ x ∈ xs, x.ok hA) (hxl : xs.length < 2 ^ 40) (F0 : Fr) (f15 : F0 15 = rv) (f16 : F0 16 = .int .i64 xs.length) (R : List Ent) (Q : Out → Prop)
    (hQ : ∀ (h : NHeap) (F : Fr) (ov : NVal), Ext hA h → Ents h ov R → F 3 = ov → Q (some (.exit 0, toL 43 F, h))) :
    ∀ (f i : Nat) (out : List Ent) (ov : NVal) (h : NHeap) (F : Fr), i + f = xs.length → (xs.drop i).foldl (fun out y => keep y.l out) out = R → out.length < 2 ^ 28 → Ext hA h → Keep [0, 15, 16] F0 F → Ents h ov out → F 3 = ov → F 17 = .int .i64 i → Q (C env (.loop lbS) (toL 43 F) h) := by
  intro f
  induction f with
  | zero =>
    intro i out ov h F hi hR hol hE kp ho f3 f17
    have : i = xs.length := by omega
    subst this
    have f16' := (kp 16 rfl).trans f16
    rw [List.drop_length, List.foldl_nil] at hR
    subst hR
    rw [S_loop]
    conv => arg 1; arg 2; arg 2; simp only [lbS, bodyOf, Option.getD_some, atC, seqL, inC, elC, List.nil_append, List.cons_append, List.getElem?_cons_succ, List.getElem?_cons_zero, Try.f29]
    simp only [go_sem, seval, f16', f17]
    exact hQ h _ ov hE ho (by simp only [go_sem, seval, f3])
  | succ f ih =>
    intro i out ov h F hi hR hol hE kp ho f3 f17
    have f15' := (kp 15 rfl).trans f15
    have f16' := (kp 16 rfl).trans f16
    obtain ⟨x, hxi⟩ : ∃ x, xs[i]? = some x := ⟨xs[i]'(by omega), List.getElem?_eq_getElem (by omega)⟩
    obtain ⟨b, o, c', x', all, mm, hv', gA, row, hle⟩ := Sl.elem LV.len (hr.ext hE) hxi
    have q0 := rowcell (j := 0) row rfl
    simp only [Nat.add_zero, Nat.mul_one] at q0
    have i0 : (0 : Int) ≤ (i : Int) := by omega
    have i1 : (i : Int) < (xs.length : Int) := by omega
    have w1 : IntKind.i64.wrap ((i : Int) + 1) = ((i + 1 : Nat) : Int) := by rw [wrap_i64_small (by omega) (by omega)]; omega
    rw [drop_at hxi, List.foldl_cons] at hR
    obtain ⟨bo, c2, x2, hov⟩ := ho.form
    obtain ⟨hxo, hxl2⟩ := (hok x (List.mem_of_getElem? hxi)).ext hE
    rw [hv'] at f15'
    rw [S_loop]
    conv => arg 1; arg 2; arg 2; simp only [lbS, bodyOf, Option.getD_some, atC, seqL, inC, elC, List.nil_append, List.cons_append, List.getElem?_cons_succ, List.getElem?_cons_zero, Try.f29]
    simp only [go_sem, seval, f15', f16', f3, hov, f17, i0, i1, gA, q0]
    have key := fun r1 r2 F1 q1 q2 q3 => loopT h ov out ho hol x.v x.l hxo hxl2 F1 q1 q2 q3 (fun r => Q (thenD env (thenD env (blockC 1 (thenD env (blockC 2 r) r1)) r2) (.loop lbS)))
    refine key _ _ _ ?_ ?_ ?_ ?_ out.length 0 [] (.slice none 0 0 none) h _ (by omega) (by simp) (by simp) (Ext.refl _) (Keep.refl _ _) (Grow.nil _ _) (by simp [blk]) ?_ ?_
    · simp only [go_sem, seval]
    · simp only [go_sem, seval, hov]
    · simp only [go_sem, seval]
    · intro h2 F2 nv hE2 kp2 gw f6
      have k15 := kp2 15 rfl
      have k16 := kp2 16 rfl
      have k17 := kp2 17 rfl
      have k0 := kp2 0 rfl
      simp only [go_sem, seval, f15', f16', f17] at k15 k16 k17 k0
      simp only [go_sem, seval, f6, k17, w1]
      have := keep_len x.l out
      refine ih (i + 1) (keep x.l out) nv h2 _ (by omega) hR (by omega) (hE.trans hE2) ?_ gw.sl (by simp only [go_sem, seval]) (by simp only [go_sem, seval])
      intro k hk
      simp only [List.contains_cons, List.contains_nil, Bool.or_eq_true, beq_iff_eq, Bool.or_false, Bool.false_eq_true, or_false] at hk
      rcases hk with rfl | rfl | rfl
      · simp only [go_sem, seval, k0, kp 0 rfl]
      · simp only [go_sem, seval, k15, ← hv', f15]
      · simp only [go_sem, seval, k16, f16]
    · simp only [go_sem, seval]
    · simp only [go_sem, seval]

theorem stays_K (h : NHeap) (v : NVal) (xs : List LV) (hr : Rw h 1 LV.c v xs) (hok : ∀ x ∈ xs, x.ok h) (hxl : xs.length < 2 ^ 40) (hne : xs ≠ []) : ∃ ov h', K env 29 [v] h = some (ov, h') ∧ Ext h h' ∧ Ents h' ov (staysF xs) := by
  obtain ⟨x, r, rfl⟩ : ∃ x r, xs = x :: r := by
    cases xs with
    | nil => exact absurd rfl hne
    | cons x r => exact ⟨x, r, rfl⟩
  obtain ⟨b, o, c', x', all, mm, hv', gA, row, hle⟩ := Sl.elem LV.len hr (i := 0) (a := x) rfl
  have q0 := rowcell (j := 0) row rfl
  simp only [Nat.add_zero, Nat.zero_mul] at q0
  obtain ⟨v2, e2, s2⟩ := Sl.drop (P := Try.prog) hr Try.underlying63 sz23 .i64 1 (by simp)
  have e2' : nslice Try.prog 63 v (some (.int .i64 1)) none = some v2 := e2
  have s2' : Rw h 1 LV.c v2 r := by
    have := rows_drop LV.len (x :: r) 1
    simp only [Nat.mul_one, List.drop_succ_cons, List.drop_zero] at this s2
    rw [this] at s2
    simpa using s2
  obtain ⟨bo2, c2, x2, hv2⟩ := s2'.form
  have i0 : (0 : Int) ≤ 0 := by omega
  have i1 : (0 : Int) < (((x :: r).length : Nat) : Int) := by simp only [List.length_cons]; omega
  obtain ⟨hxo, hxl2⟩ := hok x (by simp)
  rw [hv'] at e2' ⊢
  rw [k29 _ _ (by simp)]
  generalize hnn : (x :: r).length = nn at *
  simp only [bodyOf, Option.getD_some, go_sem, seval, Try.f29, i1, gA, q0, e2', hv2, show (0 : Int).toNat = 0 from rfl]
  have key := fun rest F q1 q2 => loopS h v2 r s2' (fun y hy => hok y (by simp [hy])) (by simp at hnn; omega) F q1 q2 (staysF (x :: r)) (fun q => ∃ ov h', outF Try.prog [.tmp 2] (thenD env (blockC 0 q) rest) = some (ov, h') ∧ Ext h h' ∧ Ents h' ov (staysF (x :: r)))
  refine key _ _ ?_ ?_ ?_ r.length 0 x.l x.v h _ (by omega) rfl hxl2 (Ext.refl _) (Keep.refl _ _) hxo ?_ ?_
  · simp only [go_sem, seval, hv2]
  · simp only [go_sem, seval]
  · intro h' F ov hE ho f3
    refine ⟨ov, h', ?_, hE, ho⟩
    simp only [go_sem, seval, f3]
  · simp only [go_sem, seval]
  · simp only [go_sem, seval]

/-! fits -/
def told1 (xs : List LV) (e : Ent) : Bool := xs.any fun x => (value x.l e.1).2 && decide ((value x.l e.1).1 = e.2)
def full (d : Done) (tl : List Ent) : Bool := decide (0 < tl.length) && decide ((tl.length : Int) = d.op.v)
def lost (d : Done) (tl : List Ent) (e : Ent) : Bool := inOp d.op e.1 && (!(value tl e.1).2 && (!full d tl || !Op.bytesLess (tl.getLastD ([], 0)).1 e.1))
def fitsF (d : Done) (tl : List Ent) (xs : List LV) : Bool := tl.all (told1 xs) && (staysF xs).all (fun e => !lost d tl e)

noncomputable def lbV : Code := inC (inC (atC (bodyOf Try.f24) 3))
noncomputable def lbU : Code := inC (inC (atC (inC (atC lbV 2)) 3))
noncomputable def lbW : Code := inC (inC (atC (bodyOf Try.f24) 6))

theorem loopU (hA : NHeap) (rv : NVal) (xs : List LV) (hr : Rw hA 1 LV.c rv xs) (hok : ∀ x ∈ xs, x.ok hA) (hxl : xs.length < 2 ^ 40) (e : Ent) (pe : Nat) (me) (ge : hA.get pe = some (.cells [.str e.1, .int .i64 e.2] me)) (F0 : Fr) (f27 : F0 27 = rv) (f28 : F0 28 = .int .i64 xs.length) (f7 : F0 7 = .ptr (some (pe, 0))) (Q : Out → Prop)
    (hQ : ∀ (h : NHeap) (F : Fr), Ext hA h → Keep [1, 2, 5, 7, 21, 22, 23, 27, 28] F0 F → F 8 = .bool (told1 xs e) → Q (some (.exit 2, toL 105 F, h))) :
    ∀ (f j : Nat) (acc : Bool) (h : NHeap) (F : Fr), j + f = xs.length → (acc || told1 (xs.drop j) e) = told1 xs e → Ext hA h → Keep [1, 2, 5, 7, 21, 22, 23, 27, 28] F0 F → F 8 = .bool acc → F 29 = .int .i64 j → Q (C env (.loop lbU) (toL 105 F) h) := by
  intro f
  induction f with
  | zero =>
    intro j acc h F hj hk hE kp f8 f29
    have : j = xs.length := by omega
    subst this
    have f28' := (kp 28 rfl).trans f28
    rw [S_loop]
    conv => arg 1; arg 2; arg 2; simp only [lbU, lbV, bodyOf, Option.getD_some, atC, seqL, inC, elC, List.nil_append, List.cons_append, List.getElem?_cons_succ, List.getElem?_cons_zero, Try.f24]
    simp only [go_sem, seval, f28', f29]
    refine hQ h _ hE ?_ ?_
    · repeat (first | exact kp | refine Keep.upd ?_ rfl)
    · simp only [go_sem, seval, f8]
      rw [← hk, List.drop_length]; simp [told1]
  | succ f ih =>
    intro j acc h F hj hk hE kp f8 f29
    have f27' := (kp 27 rfl).trans f27
    have f28' := (kp 28 rfl).trans f28
    have f7' := (kp 7 rfl).trans f7
    obtain ⟨x, hxj⟩ : ∃ x, xs[j]? = some x := ⟨xs[j]'(by omega), List.getElem?_eq_getElem (by omega)⟩
    obtain ⟨b, o, c', x', all, mm, hv', gA, row, hle⟩ := Sl.elem LV.len (hr.ext hE) hxj
    have q0 := rowcell (j := 0) row rfl
    simp only [Nat.add_zero, Nat.mul_one] at q0
    have i0 : (0 : Int) ≤ (j : Int) := by omega
    have i1 : (j : Int) < (xs.length : Int) := by omega
    have w1 : IntKind.i64.wrap ((j : Int) + 1) = ((j + 1 : Nat) : Int) := by rw [wrap_i64_small (by omega) (by omega)]; omega
    rw [drop_at hxj] at hk
    obtain ⟨hxo, hxl2⟩ := (hok x (List.mem_of_getElem? hxj)).ext hE
    obtain ⟨h1, e1, x1⟩ := value_K h x.v x.l hxo (by omega) e.1
    have g0 := hE.get ge
    have g1 := x1.get g0
    have hk' : ((acc || ((value x.l e.1).2 && decide ((value x.l e.1).1 = e.2))) || told1 (xs.drop (j + 1)) e) = told1 xs e := by
      rw [← hk]; simp only [told1, List.any_cons, Bool.or_assoc]
    rw [hv'] at f27'
    rw [S_loop]
    conv => arg 1; arg 2; arg 2; simp only [lbU, lbV, bodyOf, Option.getD_some, atC, seqL, inC, elC, List.nil_append, List.cons_append, List.getElem?_cons_succ, List.getElem?_cons_zero, Try.f24]
    cases acc <;> cases hval : (value x.l e.1).2 <;>
    · rw [hval] at e1 hk'
      simp only [go_sem, seval, f27', f28', f7', f8, f29, i0, i1, gA, q0, g0, e1, g1, w1]
      refine ih (j + 1) _ _ _ (by omega) hk' (hE.trans x1) ?_ (by simp only [go_sem, seval]) (by simp only [go_sem, seval])
      repeat (first | exact kp | refine Keep.upd ?_ rfl)

theorem loopV (hA : NHeap) (rv : NVal) (xs : List LV) (hr : Rw hA 1 LV.c rv xs) (hok : ∀ x ∈ xs, x.ok hA) (hxl : xs.length < 2 ^ 40) (tv : NVal) (tl : List Ent) (ht : Ents hA tv tl) (hl : tl.length < 2 ^ 40) (F0 : Fr) (f1 : F0 1 = rv) (f21 : F0 21 = tv) (f22 : F0 22 = .int .i64 tl.length) (R : Bool) (Q : Out → Prop)
    (hQ1 : ∀ (h : NHeap) (F : Fr), Ext hA h → R = false → F 4 = .bool false → Q (some (.ret, toL 105 F, h)))
    (hQ2 : ∀ (h : NHeap) (F : Fr), Ext hA h → R = true → Keep [1, 2, 5, 21, 22] F0 F → Q (some (.exit 0, toL 105 F, h))) :
    ∀ (f i : Nat) (h : NHeap) (F : Fr), i + f = tl.length → (tl.drop i).all (told1 xs) = R → Ext hA h → Keep [1, 2, 5, 21, 22] F0 F → F 23 = .int .i64 i → Q (C env (.loop lbV) (toL 105 F) h) := by
  intro f
  induction f with
  | zero =>
    intro i h F hi hk hE kp f23
    have : i = tl.length := by omega
    subst this
    have f22' := (kp 22 rfl).trans f22
    rw [List.drop_length] at hk
    rw [S_loop]
    conv => arg 1; arg 2; arg 2; simp only [lbV, bodyOf, Option.getD_some, atC, seqL, inC, elC, List.nil_append, List.cons_append, List.getElem?_cons_succ, List.getElem?_cons_zero, Try.f24]
    simp only [go_sem, seval, f22', f23]
    refine hQ2 h _ hE hk.symm ?_
    repeat (first | exact kp | refine Keep.upd ?_ rfl)
  | succ f ih =>
    intro i h F hi hk hE kp f23
    have f1' := (kp 1 rfl).trans f1
    have f21' := (kp 21 rfl).trans f21
    have f22' := (kp 22 rfl).trans f22
    obtain ⟨e, hei⟩ : ∃ e, tl[i]? = some e := ⟨tl[i]'(by omega), List.getElem?_eq_getElem (by omega)⟩
    obtain ⟨b, o, c', x', all, mm, hv', gA, row, hle⟩ := Sl.elem entL (ht.ext hE) hei
    have i0 : (0 : Int) ≤ (i : Int) := by omega
    have i1 : (i : Int) < (tl.length : Int) := by omega
    have w1 : IntKind.i64.wrap ((i : Int) + 1) = ((i + 1 : Nat) : Int) := by rw [wrap_i64_small (by omega) (by omega)]; omega
    have nb : ¬ b = h.next := by have := NHeap.get_lt gA; omega
    rw [drop_at hei, List.all_cons] at hk
    obtain ⟨H, hH⟩ : ∃ H, (h.alloc (.cells [.str [], .int .i64 0] (.own (some (35, 2))))).set h.next (.cells [.str e.1, .int .i64 e.2] (.own (some (35, 2)))) = H := ⟨_, rfl⟩
    have xH : Ext h H := by rw [← hH]; exact ((Ext.refl h).alloc _).set (Nat.le_refl _) _
    have gH : H.get h.next = some (.cells [.str e.1, .int .i64 e.2] (.own (some (35, 2)))) := by rw [← hH]; exact NHeap.get_set_same (by simp)
    obtain ⟨bo, c2, x2, hrv⟩ := hr.form
    rw [hv'] at f21'
    rw [S_loop]
    conv => arg 1; arg 2; arg 2; simp only [lbV, bodyOf, Option.getD_some, atC, seqL, inC, elC, List.nil_append, List.cons_append, List.getElem?_cons_succ, List.getElem?_cons_zero, Try.f24]
    simp only [go_sem, seval, f1', hrv, f21', f22', f23, i0, i1, gA, row, hle, nb, hH]
    have key := fun r1 r2 F1 q1 q2 q3 => loopU H rv xs (hr.ext (hE.trans xH)) (fun x hx => (hok x hx).ext (hE.trans xH)) hxl e h.next _ gH F1 q1 q2 q3 (fun q => Q (thenD env (thenD env (blockC 1 (thenD env (blockC 2 q) r1)) r2) (.loop lbV)))
    refine key _ _ _ ?_ ?_ ?_ ?_ xs.length 0 false H _ (by omega) (by simp) (Ext.refl _) (Keep.refl _ _) ?_ ?_
    · simp only [go_sem, seval, hrv]
    · simp only [go_sem, seval]
    · simp only [go_sem, seval]
    · intro h2 F2 hE2 kp2 f8
      cases htd : told1 xs e with
      | false =>
        rw [htd] at f8 hk
        simp only [go_sem, seval, f8]
        exact hQ1 _ _ ((hE.trans xH).trans hE2) (by rw [← hk]; rfl) (by simp only [go_sem, seval])
      | true =>
        rw [htd] at f8 hk
        have k1 := kp2 1 rfl
        have k2 := kp2 2 rfl
        have k5 := kp2 5 rfl
        have k21 := kp2 21 rfl
        have k22 := kp2 22 rfl
        have k23 := kp2 23 rfl
        simp only [go_sem, seval, f23] at k1 k2 k5 k21 k22 k23
        simp only [go_sem, seval, f8, k23, w1]
        refine ih (i + 1) h2 _ (by omega) (by simpa using hk) ((hE.trans xH).trans hE2) ?_ (by simp only [go_sem, seval])
        intro k hkk
        simp only [List.contains_cons, List.contains_nil, Bool.or_eq_true, beq_iff_eq, Bool.or_false, Bool.false_eq_true, or_false] at hkk
        rcases hkk with rfl | rfl | rfl | rfl | rfl
        · simp only [go_sem, seval, k1, kp 1 rfl]
        · simp only [go_sem, seval, k2, kp 2 rfl]
        · simp only [go_sem, seval, k5, kp 5 rfl]
        · simp only [go_sem, seval, k21, kp 21 rfl]
        · simp only [go_sem, seval, k22, kp 22 rfl]
    · simp only [go_sem, seval]
    · simp only [go_sem, seval]

theorem loopW (hA : NHeap) (d : Done) (pd : Nat) (md) (gd : hA.get pd = some (.cells d.c md)) (sv : NVal) (sl : List Ent) (hs : Ents hA sv sl) (hsl : sl.length < 2 ^ 40) (tl : List Ent) (tv : NVal) (ht : Ents hA tv tl) (hl : tl.length < 2 ^ 28) (F0 : Fr) (f2 : F0 2 = .ptr (some (pd, 0))) (f5 : F0 5 = tv) (f13 : F0 13 = .bool (full d tl)) (f66 : F0 66 = sv) (f67 : F0 67 = .int .i64 sl.length) (R : Bool) (Q : Out → Prop)
    (hQ1 : ∀ (h : NHeap) (F : Fr), Ext hA h → R = false → F 4 = .bool false → Q (some (.ret, toL 105 F, h)))
    (hQ2 : ∀ (h : NHeap) (F : Fr), Ext hA h → R = true → Q (some (.exit 4, toL 105 F, h))) :
    ∀ (f i : Nat) (h : NHeap) (F : Fr), i + f = sl.length → (sl.drop i).all (fun e => !lost d tl e) = R → Ext hA h → Keep [2, 5, 13, 66, 67] F0 F → F 68 = .int .i64 i → Q (C env (.loop lbW) (toL 105 F) h) := by
  intro f
  induction f with
  | zero =>
    intro i h F hi hk hE kp f68
    have : i = sl.length := by omega
    subst this
    have f67' := (kp 67 rfl).trans f67
    rw [List.drop_length] at hk
    rw [S_loop]
    conv => arg 1; arg 2; arg 2; simp only [lbW, bodyOf, Option.getD_some, atC, seqL, inC, elC, List.nil_append, List.cons_append, List.getElem?_cons_succ, List.getElem?_cons_zero, Try.f24]
    simp only [go_sem, seval, f67', f68]
    exact hQ2 h _ hE hk.symm
  | succ f ih =>
    intro i h F hi hk hE kp f68
    have f2' := (kp 2 rfl).trans f2
    have f5' := (kp 5 rfl).trans f5
    have f13' := (kp 13 rfl).trans f13
    have f66' := (kp 66 rfl).trans f66
    have f67' := (kp 67 rfl).trans f67
    obtain ⟨e, hei⟩ : ∃ e, sl[i]? = some e := ⟨sl[i]'(by omega), List.getElem?_eq_getElem (by omega)⟩
    obtain ⟨b, o, c', x', all, mm, hv', gA, row, hle⟩ := Sl.elem entL (hs.ext hE) hei
    have i0 : (0 : Int) ≤ (i : Int) := by omega
    have i1 : (i : Int) < (sl.length : Int) := by omega
    have w1 : IntKind.i64.wrap ((i : Int) + 1) = ((i + 1 : Nat) : Int) := by rw [wrap_i64_small (by omega) (by omega)]; omega
    have nb : ¬ b = h.next := by have := NHeap.get_lt gA; omega
    rw [drop_at hei, List.all_cons] at hk
    obtain ⟨H, hH⟩ : ∃ H, (h.alloc (.cells [.str [], .int .i64 0] (.own (some (35, 2))))).set h.next (.cells [.str e.1, .int .i64 e.2] (.own (some (35, 2)))) = H := ⟨_, rfl⟩
    have xH : Ext h H := by rw [← hH]; exact ((Ext.refl h).alloc _).set (Nat.le_refl _) _
    have gH : H.get h.next = some (.cells [.str e.1, .int .i64 e.2] (.own (some (35, 2)))) := by rw [← hH]; exact NHeap.get_set_same (by simp)
    obtain ⟨h1, e1, x1⟩ := value_K H tv tl (ht.ext (hE.trans xH)) (by omega) e.1
    obtain ⟨h2, e2, x2⟩ := in_K d.op e.1 h1
    have xx := (hE.trans xH).trans x1
    have g1 := x1.get gH
    have g2 := x2.get g1
    have gd1 := xx.get gd
    have gd2 := x2.get gd1
    have n2 := x2.next
    simp only [Done.c] at gd1 gd2
    have stop : lost d tl e = true → R = false := fun q => by rw [← hk, q]; rfl
    have go : lost d tl e = false → (sl.drop (i + 1)).all (fun e => !lost d tl e) = R := fun q => by rw [← hk, q]; rfl
    rw [hv'] at f66'
    obtain ⟨tb, tc, tx, htv⟩ := ht.form
    rw [S_loop]
    conv => arg 1; arg 2; arg 2; simp only [lbW, bodyOf, Option.getD_some, atC, seqL, inC, elC, List.nil_append, List.cons_append, List.getElem?_cons_succ, List.getElem?_cons_zero, Try.f24]
    cases c1 : inOp d.op e.1 with
    | false =>
      rw [c1] at e2
      have hlst : lost d tl e = false := by simp [lost, c1]
      simp only [go_sem, seval, f2', f5', f13', f66', f67', f68, i0, i1, gA, row, hle, nb, hH, gH, e1, g1, g2, gd1, gd2, n2, e2, w1]
      refine ih (i + 1) _ _ (by omega) (go hlst) (xx.trans x2) ?_ (by simp only [go_sem, seval])
      repeat (first | exact kp | refine Keep.upd ?_ rfl)
    | true =>
      rw [c1] at e2
      cases c2 : (value tl e.1).2 with
      | true =>
        rw [c2] at e1
        have hlst : lost d tl e = false := by simp [lost, c2]
        simp only [go_sem, seval, f2', f5', f13', f66', f67', f68, i0, i1, gA, row, hle, nb, hH, gH, e1, g1, g2, gd1, gd2, n2, e2, w1]
        refine ih (i + 1) _ _ (by omega) (go hlst) (xx.trans x2) ?_ (by simp only [go_sem, seval])
        repeat (first | exact kp | refine Keep.upd ?_ rfl)
      | false =>
        rw [c2] at e1
        cases c3 : full d tl with
        | false =>
          rw [c3] at f13'
          have hlst : lost d tl e = true := by simp [lost, c1, c2, c3]
          simp only [go_sem, seval, f2', f5', f13', f66', f67', f68, i0, i1, gA, row, hle, nb, hH, gH, e1, g1, g2, gd1, gd2, n2, e2, w1]
          exact hQ1 _ _ (xx.trans x2) (stop hlst) (by simp only [go_sem, seval])
        | true =>
          rw [c3] at f13'
          have hpos : 0 < tl.length := by
            simp only [full, Bool.and_eq_true, decide_eq_true_eq] at c3
            exact c3.1
          obtain ⟨p, hp⟩ : ∃ p, tl[tl.length - 1]? = some p := ⟨tl[tl.length - 1]'(by omega), List.getElem?_eq_getElem (by omega)⟩
          have hlast : tl.getLastD ([], 0) = p := by
            rw [List.getLastD_eq_getLast?, List.getLast?_eq_getElem?, hp]; rfl
          obtain ⟨b2, o2, c3', x3, all2, mm2, hv2, gA2, row2, hle2⟩ := Sl.elem entL (ht.ext xx) hp
          have q0 := rowcell (j := 0) row2 rfl
          simp only [Nat.add_zero] at q0
          have gA3 := x2.get gA2
          have wj : IntKind.i64.wrap ((tl.length : Int) - 1) = ((tl.length - 1 : Nat) : Int) := by rw [wrap_i64_small (by omega) (by omega)]; omega
          have j0 : (0 : Int) ≤ ((tl.length - 1 : Nat) : Int) := by omega
          have j1 : ((tl.length - 1 : Nat) : Int) < (tl.length : Int) := by omega
          rw [hv2] at f5' e1
          cases c4 : Op.bytesLess p.1 e.1 with
          | true =>
            have hlst : lost d tl e = false := by rw [lost, hlast, c1, c2, c3, c4]; rfl
            simp only [go_sem, seval, f2', f5', f13', f66', f67', f68, i0, i1, gA, row, hle, nb, hH, gH, e1, g1, g2, gd1, gd2, n2, e2, w1, wj, j0, j1, gA2, gA3, q0, c4]
            refine ih (i + 1) _ _ (by omega) (go hlst) (xx.trans x2) ?_ (by simp only [go_sem, seval])
            repeat (first | exact kp | refine Keep.upd ?_ rfl)
          | false =>
            have hlst : lost d tl e = true := by rw [lost, hlast, c1, c2, c3, c4]; rfl
            simp only [go_sem, seval, f2', f5', f13', f66', f67', f68, i0, i1, gA, row, hle, nb, hH, gH, e1, g1, g2, gd1, gd2, n2, e2, w1, wj, j0, j1, gA2, gA3, q0, c4]
            exact hQ1 _ _ (xx.trans x2) (stop hlst) (by simp only [go_sem, seval])

theorem fits_K (h : NHeap) (d : Done) (tl : List Ent) (ht : Ents h (.slice d.ans.lb d.ans.ln d.ans.lc d.ans.lx) tl) (hl : tl.length < 2 ^ 28) (rv : NVal) (xs : List LV) (hr : Rw h 1 LV.c rv xs) (hok : ∀ x ∈ xs, x.ok h) (hxl : xs.length < 2 ^ 40) (hne : xs ≠ []) :
    ∃ h', K env 24 [.agg d.c, rv] h = some (.bool (fitsF d tl xs), h') ∧ Ext h h' := by
  obtain ⟨H, hH⟩ : ∃ H, h.alloc (.cells d.c (.own none)) = H := ⟨_, rfl⟩
  have x0 : Ext h H := by rw [← hH]; exact (Ext.refl h).alloc _
  have g0 : H.get h.next = some (.cells d.c (.own none)) := by rw [← hH]; simp [NHeap.get_alloc]
  have hn : d.ans.ln = tl.length := by
    obtain ⟨_, bo, c', x', q1, _⟩ := ht
    simp only [NVal.slice.injEq] at q1
    exact q1.2.1
  obtain ⟨bo, c2, x2, hrv⟩ := hr.form
  have g0' := g0
  simp only [Done.c] at hH g0'
  rw [k24 _ _ (by simp)]
  simp only [bodyOf, Option.getD_some, go_sem, seval, Try.f24, hrv, hH, g0']
  have key := fun rest F q1 q2 q3 => loopV H rv xs (hr.ext x0) (fun x hx => (hok x hx).ext x0) hxl _ tl (ht.ext x0) (by omega) F q1 q2 q3 (tl.all (told1 xs)) (fun q => ∃ h', outF Try.prog [.tmp 4] (thenD env (blockC 0 q) rest) = some (.bool (fitsF d tl xs), h') ∧ Ext h h')
  refine key _ _ ?_ ?_ ?_ ?_ ?_ tl.length 0 H _ (by omega) (by simp) (Ext.refl _) (Keep.refl _ _) ?_
  · simp only [go_sem, seval, hrv]
  · simp only [go_sem, seval]
  · simp only [go_sem, seval, hn]
  · intro h' F hE hR f4
    refine ⟨h', ?_, x0.trans hE⟩
    simp only [go_sem, seval, f4, fitsF, hR]
  · intro h' F hE hR kp
    have k1 := kp 1 rfl
    have k2 := kp 2 rfl
    have k5 := kp 5 rfl
    simp only [go_sem, seval] at k1 k2 k5
    have g1 := hE.get g0'
    obtain ⟨sv, h2, e2, x2', s2⟩ := stays_K h' rv xs (hr.ext (x0.trans hE)) (fun x hx => (hok x hx).ext (x0.trans hE)) hxl hne
    obtain ⟨sb, sc, sx, hsv⟩ := s2.form
    have g2 := x2'.get g1
    have xx := (x0.trans hE).trans x2'
    rw [hrv, hsv] at e2
    have sle : (staysF xs).length < 2 ^ 40 := by
      obtain ⟨x, r, rfl⟩ : ∃ x r, xs = x :: r := by
        cases xs with
        | nil => exact absurd rfl hne
        | cons x r => exact ⟨x, r, rfl⟩
      have : ∀ (r : List LV) (l : List Ent), (r.foldl (fun out y => lin.keep y.l out) l).length ≤ l.length := by
        intro r
        induction r with
        | nil => intro l; simp
        | cons y r ih => intro l; exact Nat.le_trans (ih _) (keep_len _ _)
      have h1 := this r x.l
      have h2 := (hok x (by simp)).2
      simp only [staysF]
      omega
    have fin : ∀ (F2 : Fr), F2 2 = .ptr (some (h.next, 0)) → F2 5 = .slice d.ans.lb d.ans.ln d.ans.lc d.ans.lx → F2 13 = .bool (full d tl) → F2 66 = sv → F2 67 = .int .i64 (staysF xs).length → F2 68 = .int .i64 0 →
        ∃ h', outF Try.prog [.tmp 4] (thenD env (blockC 4 (C env (.loop lbW) (toL 105 F2) h2)) (.seq (atC (bodyOf Try.f24) 7) .ret)) = some (.bool (fitsF d tl xs), h') ∧ Ext h h' := by
      intro F2 q2 q5 q13 q66 q67 q68
      refine loopW h2 d h.next _ (x2'.get (hE.get g0)) sv (staysF xs) s2 sle tl _ (ht.ext xx) hl F2 q2 q5 q13 q66 q67 ((staysF xs).all fun e => !lost d tl e) (fun q => ∃ h', outF Try.prog [.tmp 4] (thenD env (blockC 4 q) (.seq (atC (bodyOf Try.f24) 7) .ret)) = some (.bool (fitsF d tl xs), h') ∧ Ext h h') ?_ ?_ (staysF xs).length 0 h2 F2 (by omega) (by simp) (Ext.refl _) (Keep.refl _ _) q68
      · intro h3 F3 hE3 hR3 f4
        refine ⟨h3, ?_, xx.trans hE3⟩
        simp only [go_sem, seval, f4, fitsF, hR, hR3]
      · intro h3 F3 hE3 hR3
        refine ⟨h3, ?_, xx.trans hE3⟩
        simp only [bodyOf, Option.getD_some, atC, seqL, inC, elC, go_sem, seval, fitsF, hR, hR3, Try.f24]
    simp only [bodyOf, Option.getD_some, atC, seqL, inC, elC, List.nil_append, List.cons_append, List.getElem?_cons_succ, List.getElem?_cons_zero, lbW, Try.f24] at fin
    by_cases hz : 0 < tl.length
    · have hz' : (0 : Int) < (d.ans.ln : Int) := by omega
      by_cases hv : (tl.length : Int) = d.op.v
      · have hv' : decide ((d.ans.ln : Int) = d.op.v) = true := by rw [hn]; exact decide_eq_true hv
        simp only [go_sem, seval, k1, k2, k5, hz', g1, hv', e2]
        refine fin _ ?_ ?_ ?_ ?_ ?_ ?_ <;> simp only [go_sem, seval, k2, k5, full, hz, hv, hsv]
      · have hv' : ¬ (d.ans.ln : Int) = d.op.v := by rw [hn]; exact hv
        simp only [go_sem, seval, k1, k2, k5, hz', g1, hv', e2]
        refine fin _ ?_ ?_ ?_ ?_ ?_ ?_ <;> simp only [go_sem, seval, k2, k5, full, hz, hv, hsv]
    · have hz' : ¬ (0 : Int) < (d.ans.ln : Int) := by omega
      simp only [go_sem, seval, k1, k2, k5, hz', g1, e2]
      refine fin _ ?_ ?_ ?_ ?_ ?_ ?_ <;> simp only [go_sem, seval, k2, k5, full, hz, hsv]
  · simp only [go_sem, seval]
end lin
end Go.Proofs.Ytblhpikljhholaa.S

namespace Go.Proofs.Ytblhpikljhholaa.S
open Go Go.RowKit Go.Proofs.Ytblhpikljhholaa.NICE
set_option maxRecDepth 100000
set_option linter.unusedSimpArgs false
set_option linter.unusedVariables false
namespace lin
open shape

/-! what is told, over lists alone -/
def told1L (ls : List (List Ent)) (e : Ent) : Bool := ls.any fun l => (value l e.1).2 && decide ((value l e.1).1 = e.2)
def staysL (ls : List (List Ent)) : List Ent := match ls with
  | [] => []
  | x :: r => r.foldl (fun out y => keep y out) x
def fitsL (d : Done) (tl : List Ent) (ls : List (List Ent)) : Bool := tl.all (told1L ls) && (staysL ls).all (fun e => !lost d tl e)
theorem fits_eq (d : Done) (tl : List Ent) (xs : List LV) : fitsF d tl xs = fitsL d tl (xs.map (·.l)) := by
  have h1 : ∀ e, told1 xs e = told1L (xs.map (·.l)) e := fun e => by simp [told1, told1L, List.any_map, Function.comp_def]
  have h2 : staysF xs = staysL (xs.map (·.l)) := by
    cases xs with
    | nil => rfl
    | cons x r => simp [staysF, staysL, List.foldl_map]
  unfold fitsF fitsL
  rw [h2]
  congr 1
  congr 1
  funext e
  exact h1 e
/-- the entries at the moments from one on -/
def at_ (ds : List Done) (k : Nat) : List Ent := (replay [] (ds.take k) 0).1
def momList (ds : List Done) (a n : Nat) : List (List Ent) := (List.range' a n).map (at_ ds)
def skips (hs : List Ev) (d : Done) : Bool := d.op.k != 4 || (d.ans.err != 0 || fin hs d == hs.length)
def okScan (hs : List Ev) (ds : List Done) (d : Done) (tl : List Ent) : Bool := ordered d tl && fitsL d tl (momList ds (momFrom hs ds d) (momTo hs ds d + 1 - momFrom hs ds d))
def scansF (hs : List Ev) (ds : List Done) (L : Nat → List Ent) : List Done → Nat → Int
  | [], _ => -1
  | d :: r, i => if skips hs d = true then scansF hs ds L r (i + 1) else if okScan hs ds d (L i) = true then scansF hs ds L r (i + 1) else (i : Int)
theorem replay_len (ds : List Done) : ∀ (now : List Ent) (i : Nat), (replay now ds i).1.length ≤ now.length + ds.length := by
  induction ds with
  | nil => intro now i; simp [replay]
  | cons d ds ih =>
    intro now i
    unfold replay
    have := doneF_len now d
    split
    · have := ih now (i + 1); simp; omega
    · split
      · have := ih (doneF now d).1 (i + 1); simp; omega
      · simp
theorem at_len (ds : List Done) (k : Nat) : (at_ ds k).length ≤ ds.length := by
  have := replay_len (ds.take k) [] 0
  simp at this
  unfold at_
  omega

noncomputable def lbM : Code := inC (inC (atC (bodyOf Try.f13) 2))
noncomputable def lbN : Code := inC (inC (atC (inC (atC lbM 2)) 8))

theorem loopN (hA : NHeap) (v : NVal) (ds : List Done) (hd : Dones hA v ds) (hl : ds.length < 2 ^ 28) (a to : Nat) (hat : a ≤ to) (hto : to ≤ ds.length) (F0 : Fr) (f1 : F0 1 = v) (f8 : F0 8 = .int .i64 to) (Q : Out → Prop)
    (hQ : ∀ (h : NHeap) (F : Fr) (av : NVal) (xs : List LV), Ext hA h → Keep [0, 1, 5, 6, 8, 13, 14, 15] F0 F → Grow h av 1 (rows LV.c xs) xs.length → (∀ x ∈ xs, x.ok h) → xs.map (·.l) = momList ds a (to + 1 - a) → F 9 = av → Q (some (.exit 2, toL 72 F, h))) :
    ∀ (f k : Nat) (xs : List LV) (av : NVal) (h : NHeap) (F : Fr), k + f = to + 1 → a ≤ k → xs.map (·.l) = momList ds a (k - a) → Ext hA h → Keep [0, 1, 5, 6, 8, 13, 14, 15] F0 F → Grow h av 1 (rows LV.c xs) xs.length → (∀ b ∈ blk av, hA.next ≤ b) → (∀ x ∈ xs, x.ok h ∧ (x.l.length = 0 ∨ ∀ b ∈ blk x.v, b ∉ blk av)) → F 9 = av → F 10 = .int .i64 k → Q (C env (.loop lbN) (toL 72 F) h) := by
  intro f
  induction f with
  | zero =>
    intro k xs av h F hk hak hx hE kp gw hb hok f9 f10
    have : k = to + 1 := by omega
    subst this
    have f8' := (kp 8 rfl).trans f8
    have z : ¬ ((to + 1 : Nat) : Int) ≤ (to : Int) := by omega
    rw [S_loop]
    conv => arg 1; arg 2; arg 2; simp only [lbN, lbM, bodyOf, Option.getD_some, atC, seqL, inC, elC, List.nil_append, List.cons_append, List.getElem?_cons_succ, List.getElem?_cons_zero, Try.f13]
    simp only [go_sem, seval, f8', f10, z]
    refine hQ h _ av xs hE ?_ gw (fun x hx => (hok x hx).1) hx (by simp only [go_sem, seval, f9])
    repeat (first | exact kp | refine Keep.upd ?_ rfl)
  | succ f ih =>
    intro k xs av h F hk hak hx hE kp gw hb hok f9 f10
    have f8' := (kp 8 rfl).trans f8
    have f1' := (kp 1 rfl).trans f1
    have z : (k : Int) ≤ (to : Int) := by omega
    have w1 : IntKind.i64.wrap ((k : Int) + 1) = ((k + 1 : Nat) : Int) := by rw [wrap_i64_small (by omega) (by omega)]; omega
    have hxl : xs.length = k - a := by have := congrArg List.length hx; simpa [momList] using this
    obtain ⟨v2, e3, s3⟩ := Sl.take (P := Try.prog) (hd.ext hE) Try.underlying24 sz40 .i64 k (by omega)
    have hli : (ds.take k).length = k := by simp; omega
    have s3' : Dones h v2 (ds.take k) := by
      rw [Dones, Rw, hli]
      rw [rows_take Done.len] at s3
      exact s3
    obtain ⟨nv, h1, e4, x1, s4, fr4⟩ := Replay_K h v2 (ds.take k) s3' (by omega)
    obtain ⟨nb, nc, nx, hnv⟩ := s4.form
    have hnv' : nv = .slice nb (at_ ds k).length nc nx := hnv
    subst hnv'
    obtain ⟨X, hX⟩ : ∃ X : LV, X = ⟨nb, (at_ ds k).length, nc, nx, at_ ds k⟩ := ⟨_, rfl⟩
    have hXc : X.c = [.slice nb (at_ ds k).length nc nx] := by rw [hX]
    have hXl : X.l = at_ ds k := by rw [hX]
    have gV : (h1.alloc (.cells [.slice nb (at_ ds k).length nc nx] (.own none))).get h1.next = some (.cells X.c (.own none)) := by rw [hXc]; simp [NHeap.get_alloc]
    have xa : Ext h (h1.alloc (.cells [.slice nb (at_ ds k).length nc nx] (.own none))) := x1.alloc _
    obtain ⟨h2, ap, n2, gw2, U2⟩ := grow_one (P := Try.prog) LV.len LV.one Try.underlying63 sz23 by23 ze23 rfl (by decide) (gw.upd (Upd.of_ext xa) (by simp)) gV (by omega) (by omega)
    have xB : Ext hA h2 := Upd.ext ((Upd.of_ext (hE.trans xa)).trans' U2 fun b hb' => .inr (hb b hb'))
    have nvo : X.ok h1 := by
      refine ⟨?_, by rw [hXl]; have := at_len ds k; omega⟩
      rw [hX]
      exact s4
    have hn1 := x1.next
    obtain ⟨vb, vc, vx, hv1⟩ := hd.form
    rw [hv1] at f1' e3
    obtain ⟨wb, wc, wx, hw⟩ := s3.form
    have e4' : K env 10 [v2] h = some (.tuple [.slice nb (at_ ds k).length nc nx, .int .i64 (replay [] (ds.take k) 0).2], h1) := e4
    rw [S_loop]
    conv => arg 1; arg 2; arg 2; simp only [lbN, lbM, bodyOf, Option.getD_some, atC, seqL, inC, elC, List.nil_append, List.cons_append, List.getElem?_cons_succ, List.getElem?_cons_zero, Try.f13]
    simp only [go_sem, seval, f8', f1', f9, f10, z, e3, e4', ap, w1]
    refine ih (k + 1) (xs ++ [X]) _ h2 _ (by omega) (by omega) ?_ xB ?_ (by rw [List.length_append]; exact gw2) ?_ ?_ (by simp only [go_sem, seval]) (by simp only [go_sem, seval])
    · rw [List.map_append, hx]
      simp only [List.map_cons, List.map_nil, hXl, momList, show k + 1 - a = (k - a) + 1 by omega, List.range'_concat, List.map_append, Nat.one_mul, show a + (k - a) = k by omega]
    · repeat (first | exact kp | refine Keep.upd ?_ rfl)
    · intro b hb'
      simp [blk] at hb'
      have := (hE.trans xa).next
      simp at this
      omega
    · intro x hxm
      rw [List.mem_append, List.mem_singleton] at hxm
      have fresh : ∀ y : LV, y.ok h1 → (y.l.length = 0 ∨ ∀ b ∈ blk y.v, b ∉ blk (NVal.slice (some ((h1.alloc (.cells [.slice nb (at_ ds k).length nc nx] (.own none))).next, 0)) (xs.length + 1) (xs.length + 1) (some 1))) := by
        intro y hy
        by_cases hy0 : y.l.length = 0
        · exact .inl hy0
        · refine .inr fun b hb' hb2 => ?_
          have := hy.1.lt (by omega) (by decide) b hb'
          simp only [blk, List.mem_singleton] at hb2
          simp only [NHeap.next_alloc] at hb2
          omega
      rcases hxm with hxm | rfl
      · obtain ⟨o1, o2⟩ := hok x hxm
        have o3 : x.ok (h1.alloc (.cells [.slice nb (at_ ds k).length nc nx] (.own none))) := o1.ext xa
        exact ⟨⟨o3.1.upd' U2 o2, o3.2⟩, fresh x (o1.ext x1)⟩
      · have o3 : x.ok (h1.alloc (.cells [.slice nb (at_ ds k).length nc nx] (.own none))) := nvo.ext ((Ext.refl _).alloc _)
        refine ⟨⟨o3.1.upd' U2 (.inr fun b hb1 hb2 => ?_), o3.2⟩, fresh x nvo⟩
        have h1 := gw.lt b hb2
        rw [hX] at hb1
        have h2 := fr4 b hb1
        omega

theorem loopM (hA : NHeap) (hv : NVal) (hs : List Ev) (he : Evs hA hv hs) (hhl : hs.length < 2 ^ 39) (v : NVal) (ds : List Done) (hd : Dones hA v ds) (hl : ds.length < 2 ^ 28) (hbd : ∀ x ∈ ds, -2 ^ 40 < x.begin ∧ x.begin < 2 ^ 40) (L : Nat → List Ent)
    (hL : ∀ (i : Nat) d, ds[i]? = some d → skips hs d = false → Ents hA (.slice d.ans.lb d.ans.ln d.ans.lc d.ans.lx) (L i) ∧ (L i).length < 2 ^ 28) (F0 : Fr) (f0 : F0 0 = hv) (f1 : F0 1 = v) (f13 : F0 13 = v) (f14 : F0 14 = .int .i64 ds.length) (R : Int) (Q : Out → Prop)
    (hQ1 : ∀ (h : NHeap) (F : Fr), Ext hA h → F 4 = .int .i64 R → Q (some (.ret, toL 72 F, h)))
    (hQ2 : ∀ (h : NHeap) (F : Fr), Ext hA h → R = -1 → Q (some (.exit 0, toL 72 F, h))) :
    ∀ (f i : Nat) (h : NHeap) (F : Fr), i + f = ds.length → scansF hs ds L (ds.drop i) i = R → Ext hA h → Keep [0, 1, 13, 14] F0 F → F 15 = .int .i64 i → Q (C env (.loop lbM) (toL 72 F) h) := by
  intro f
  induction f with
  | zero =>
    intro i h F hi hr hE kp f15
    have : i = ds.length := by omega
    subst this
    have f14' := (kp 14 rfl).trans f14
    rw [List.drop_length, scansF] at hr
    rw [S_loop]
    conv => arg 1; arg 2; arg 2; simp only [lbM, bodyOf, Option.getD_some, atC, seqL, inC, elC, List.nil_append, List.cons_append, List.getElem?_cons_succ, List.getElem?_cons_zero, Try.f13]
    simp only [go_sem, seval, f14', f15]
    exact hQ2 h _ hE hr.symm
  | succ f ih =>
    intro i h F hi hr hE kp f15
    have f0' := (kp 0 rfl).trans f0
    have f1' := (kp 1 rfl).trans f1
    have f13' := (kp 13 rfl).trans f13
    have f14' := (kp 14 rfl).trans f14
    obtain ⟨d, hdi⟩ : ∃ d, ds[i]? = some d := ⟨ds[i]'(by omega), List.getElem?_eq_getElem (by omega)⟩
    obtain ⟨b, o, c', x', all, mm, hv', gA, row, hle⟩ := Sl.elem Done.len (hd.ext hE) hdi
    have i0 : (0 : Int) ≤ (i : Int) := by omega
    have i1 : (i : Int) < (ds.length : Int) := by omega
    have w1 : IntKind.i64.wrap ((i : Int) + 1) = ((i + 1 : Nat) : Int) := by rw [wrap_i64_small (by omega) (by omega)]; omega
    rw [drop_at hdi, scansF] at hr
    have nb : ¬ b = h.next := by have := NHeap.get_lt gA; omega
    obtain ⟨H, hH⟩ : ∃ H, (h.alloc (.cells [.int .i64 0, .int .i64 0, .int .i64 0, .str [], .str [], .int .i64 0, .int .i64 0, .bool false, .int .i64 0, .slice none 0 0 none] (.own (some (40, 10))))).set h.next (.cells d.c (.own (some (40, 10)))) = H := ⟨_, rfl⟩
    have xH : Ext h H := by rw [← hH]; exact ((Ext.refl h).alloc _).set (Nat.le_refl _) _
    have gH : H.get h.next = some (.cells d.c (.own (some (40, 10)))) := by rw [← hH]; exact NHeap.get_set_same (by simp)
    have xB := hE.trans xH
    obtain ⟨bd0, bd1⟩ := hbd d (List.mem_of_getElem? hdi)
    obtain ⟨h1, e1, x1⟩ := end_K H hv hs (he.ext xB) (by omega) d bd1 bd0
    have xx := xB.trans x1
    have g1 := x1.get gH
    obtain ⟨eb, ec, ex, hev⟩ := he.form
    have gH' := gH
    have g1' := g1
    simp only [Done.c] at hH gH' e1 row g1'
    rw [hv'] at f13'
    have skp : ∀ (hh : NHeap) (FF : Fr), skips hs d = true → Ext hA hh → Keep [0, 1, 13, 14] F0 FF → FF 15 = .int .i64 ((i + 1 : Nat) : Int) → Q (C env (.loop lbM) (toL 72 FF) hh) := by
      intro hh FF hsk hEE kpp f15'
      rw [if_pos hsk] at hr
      exact ih (i + 1) hh FF (by omega) hr hEE kpp f15'
    by_cases c1 : d.op.k = 4
    case neg =>
      rw [S_loop]
      conv => arg 1; arg 2; arg 2; simp only [lbM, bodyOf, Option.getD_some, atC, seqL, inC, elC, List.nil_append, List.cons_append, List.getElem?_cons_succ, List.getElem?_cons_zero, Try.f13]
      simp only [go_sem, seval, f0', f1', f13', f14', f15, i0, i1, gA, row, hle, nb, hH, gH', c1, w1]
      refine skp _ _ (by simp [skips, c1]) xB ?_ (by simp only [go_sem, seval])
      repeat (first | exact kp | refine Keep.upd ?_ rfl)
    have d1 : decide (d.op.k = 4) = true := decide_eq_true c1
    by_cases c2 : d.ans.err = 0
    case neg =>
      rw [S_loop]
      conv => arg 1; arg 2; arg 2; simp only [lbM, bodyOf, Option.getD_some, atC, seqL, inC, elC, List.nil_append, List.cons_append, List.getElem?_cons_succ, List.getElem?_cons_zero, Try.f13]
      simp only [go_sem, seval, f0', f1', f13', f14', f15, i0, i1, gA, row, hle, nb, hH, gH', d1, c2, w1]
      refine skp _ _ (by simp [skips, c2]) xB ?_ (by simp only [go_sem, seval])
      repeat (first | exact kp | refine Keep.upd ?_ rfl)
    have d2 : decide (d.ans.err = 0) = true := decide_eq_true c2
    rw [hev] at f0' e1
    by_cases c3 : fin hs d = hs.length
    case pos =>
      have c3' : ((fin hs d : Nat) : Int) = (hs.length : Int) := by rw [c3]
      have d3 : decide (((fin hs d : Nat) : Int) = (hs.length : Int)) = true := decide_eq_true c3'
      rw [S_loop]
      conv => arg 1; arg 2; arg 2; simp only [lbM, bodyOf, Option.getD_some, atC, seqL, inC, elC, List.nil_append, List.cons_append, List.getElem?_cons_succ, List.getElem?_cons_zero, Try.f13]
      simp only [go_sem, seval, f0', f1', f13', f14', f15, i0, i1, gA, row, hle, nb, hH, gH', d1, d2, e1, d3, w1]
      refine skp _ _ (by simp [skips, c3]) xx ?_ (by simp only [go_sem, seval])
      repeat (first | exact kp | refine Keep.upd ?_ rfl)
    have c3' : ¬ ((fin hs d : Nat) : Int) = (hs.length : Int) := by omega
    have hsk : skips hs d = false := by simp [skips, c1, c2, c3]
    rw [hsk, if_neg (by decide)] at hr
    obtain ⟨hLs, hLl⟩ := hL i d hdi hsk
    obtain ⟨h2, e2, x2⟩ := ordered_K h1 d (L i) (hLs.ext xx) (by omega)
    have g2 := x2.get g1
    have g2' := x2.get g1'
    have xx2 := xx.trans x2
    simp only [Done.c] at e2
    cases c4 : ordered d (L i) with
    | false =>
      rw [c4] at e2
      rw [okScan, c4, Bool.false_and, if_neg (by decide)] at hr
      rw [S_loop]
      conv => arg 1; arg 2; arg 2; simp only [lbM, bodyOf, Option.getD_some, atC, seqL, inC, elC, List.nil_append, List.cons_append, List.getElem?_cons_succ, List.getElem?_cons_zero, Try.f13]
      simp only [go_sem, seval, f0', f1', f13', f14', f15, i0, i1, gA, row, hle, nb, hH, gH', d1, d2, e1, c3', g1', e2]
      exact hQ1 _ _ xx2 (by simp only [go_sem, seval, hr])
    | true =>
      rw [c4] at e2
      rw [okScan, c4, Bool.true_and] at hr
      obtain ⟨h3, e3, x3⟩ := moments_K h2 hv hs (he.ext xx2) hhl v ds (hd.ext xx2) hl hbd d bd0 bd1
      have xx3 := xx2.trans x3
      have g3 := x3.get g2
      have g3' := x3.get g2'
      simp only [Done.c] at e3
      rw [hev] at e3
      have hfa : momFrom hs ds d ≤ ds.length := by have := momA_le hs d ds 0 0 (by omega); unfold momFrom; omega
      have hto : momTo hs ds d ≤ ds.length := momB_le _ _ _ _ _ hfa (by omega)
      have hft : momFrom hs ds d ≤ momTo hs ds d := momB_ge _ _ _ _
      rw [S_loop]
      conv => arg 1; arg 2; arg 2; simp only [lbM, bodyOf, Option.getD_some, atC, seqL, inC, elC, List.nil_append, List.cons_append, List.getElem?_cons_succ, List.getElem?_cons_zero, Try.f13]
      simp only [go_sem, seval, f0', f1', f13', f14', f15, i0, i1, gA, row, hle, nb, hH, gH', d1, d2, e1, c3', g1', g2', e2, e3]
      have key := fun r1 r2 F1 q1 q2 => loopN h3 v ds (hd.ext xx3) hl (momFrom hs ds d) (momTo hs ds d) hft hto F1 q1 q2 (fun q => Q (thenD env (thenD env (blockC 1 (thenD env (blockC 2 q) r1)) r2) (.loop lbM)))
      refine key _ _ _ ?_ ?_ ?_ (momTo hs ds d + 1 - momFrom hs ds d) (momFrom hs ds d) [] (.slice none 0 0 none) h3 _ (by omega) (by omega) (by simp [momList]) (Ext.refl _) (Keep.refl _ _) (Grow.nil _ _) (by simp [blk]) (by simp) ?_ ?_
      · simp only [go_sem, seval, f1']
      · simp only [go_sem, seval]
      · intro h4 F4 av xs hE4 kp4 gw hok hxs f9
        have k0 := kp4 0 rfl
        have k1 := kp4 1 rfl
        have k5 := kp4 5 rfl
        have k6 := kp4 6 rfl
        have k13 := kp4 13 rfl
        have k14 := kp4 14 rfl
        have k15 := kp4 15 rfl
        simp only [go_sem, seval, f0', f1', f13', f14', f15] at k0 k1 k5 k6 k13 k14 k15
        have g4 := hE4.get g3'
        have xx4 := xx3.trans hE4
        have hxne : xs ≠ [] := by
          rintro rfl
          have := congrArg List.length hxs
          simp [momList] at this
          omega
        have hxl : xs.length < 2 ^ 40 := by
          have := congrArg List.length hxs
          simp [momList] at this
          omega
        obtain ⟨h5, e5, x5⟩ := fits_K h4 d (L i) (hLs.ext xx4) hLl av xs gw.sl hok hxl hxne
        rw [fits_eq, hxs] at e5
        simp only [Done.c] at e5
        cases c6 : fitsL d (L i) (momList ds (momFrom hs ds d) (momTo hs ds d + 1 - momFrom hs ds d)) with
        | false =>
          rw [c6] at e5 hr
          rw [if_neg (by decide)] at hr
          simp only [go_sem, seval, f9, k5, k6, g4, e5]
          exact hQ1 _ _ (xx4.trans x5) (by simp only [go_sem, seval, hr])
        | true =>
          rw [c6] at e5 hr
          rw [if_pos rfl] at hr
          simp only [go_sem, seval, f9, k5, k6, k15, g4, e5, w1]
          refine ih (i + 1) _ _ (by omega) hr (xx4.trans x5) ?_ (by simp only [go_sem, seval])
          intro k hkk
          simp only [List.contains_cons, List.contains_nil, Bool.or_eq_true, beq_iff_eq, Bool.or_false, Bool.false_eq_true, or_false] at hkk
          rcases hkk with rfl | rfl | rfl | rfl
          · simp only [go_sem, seval, k0, f0, hev]
          · simp only [go_sem, seval, k1, f1]
          · simp only [go_sem, seval, k13, f13, hv']
          · simp only [go_sem, seval, k14, f14]
      · simp only [go_sem, seval]
      · simp only [go_sem, seval]

theorem Scans_K (h : NHeap) (hv : NVal) (hs : List Ev) (he : Evs h hv hs) (hhl : hs.length < 2 ^ 39) (v : NVal) (ds : List Done) (hd : Dones h v ds) (hl : ds.length < 2 ^ 28) (hbd : ∀ x ∈ ds, -2 ^ 40 < x.begin ∧ x.begin < 2 ^ 40) (L : Nat → List Ent)
    (hL : ∀ (i : Nat) d, ds[i]? = some d → skips hs d = false → Ents h (.slice d.ans.lb d.ans.ln d.ans.lc d.ans.lx) (L i) ∧ (L i).length < 2 ^ 28) :
    ∃ h', K env 13 [hv, v] h = some (.int .i64 (scansF hs ds L ds 0), h') ∧ Ext h h' := by
  obtain ⟨bo, c, xq, hvv⟩ := hd.form
  rw [k13 _ _ (by simp)]
  simp only [bodyOf, Option.getD_some, go_sem, seval, Try.f13, hvv]
  have key := fun rest F q0 q1 q2 q3 => loopM h hv hs he hhl v ds hd hl hbd L hL F q0 q1 q2 q3 (scansF hs ds L ds 0) (fun r => ∃ h', outF Try.prog [.tmp 4] (thenD env (blockC 0 r) rest) = some (.int .i64 (scansF hs ds L ds 0), h') ∧ Ext h h')
  refine key _ _ ?_ ?_ ?_ ?_ ?_ ?_ ds.length 0 h _ (by omega) (by simp) (Ext.refl _) (Keep.refl _ _) ?_
  · simp only [go_sem, seval]
  · simp only [go_sem, seval, hvv]
  · simp only [go_sem, seval, hvv]
  · simp only [go_sem, seval]
  · intro h' F hE f4
    refine ⟨h', ?_, hE⟩
    simp only [go_sem, seval, f4]
  · intro h' F hE hR
    refine ⟨h', ?_, hE⟩
    simp only [go_sem, seval, hR]
  · simp only [go_sem, seval]
end lin
end Go.Proofs.Ytblhpikljhholaa.S

