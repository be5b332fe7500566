import PyProof.Rows.All
import Wide.All
import OpenK.AllK
import Wide.FinOn
import PySem.Challenge.RW_xm0782_01
open PySem PySem.W PyProof.Rows
set_option Elab.async false
set_option maxRecDepth 100000
/-
The law of scaled_by, by open_k with cuts of its own.
1. _law_scale(script) is cut to what it makes: a new list of two ints, both 0 or more, the second at most 65290 (ScaleEnd).
2. _law_grain(scale, many) is cut to what it gives: an int from 0 below many; the list holds two such ints again (GrainEnd).
3. The comprehension that draws: a rule whose ledger may turn the list at each turn; its items lie in 1 .. 65535 (draw_rest, draw_end).
4. sorted of a made tuple of three ints, the middle one read (sorted_tup, sorted3); divmod with the order of addresses (divmod_K).
5. The loop: due is the list of what is due of the items taken so far (due1); the end: what scaled_by tells is that list (told_due).
-/
namespace Mine
inductive CutMark : Prop where
  | mk
def ScaleEnd (h₀ : Heap) (L : Addr) (m : Str → Option Value) (news : List (Addr × Obj)) (s : Shared) (v : Value) (s' : Shared) : Prop :=
  ∃ (l : Addr) (a b : Int) (ta tb : Tok) (h : Heap) (tk : Nat), v = .ref l ∧ s' = { s with heap := h, toks := tk } ∧ Fr h₀ L h m ∧
    News h₀ L h ((l, listOf #[.int a ta, .int b tb] 0) :: news) ∧ (∀ p ∈ news, @LT.lt Nat instLTNat p.1 l) ∧ 0 ≤ a ∧ 0 ≤ b ∧ b ≤ 65290
theorem scale_cut {M : Model} {A : Around} {c : Sem Value} {E Q : Value → Shared → Prop} {s : Shared} {h₀ : Heap} {L : Addr} {m : Str → Option Value} {news : List (Addr × Obj)}
    (F : Fr h₀ L s.heap m) (N : News h₀ L s.heap news)
    (hc : CutMark → wpAny M A c (fun v s₂ => ScaleEnd h₀ L m news s v s₂) E s)
    (hk : ∀ (l : Addr) (a b : Int) (ta tb : Tok) (h : Heap) (tk : Nat), Fr h₀ L h m → News h₀ L h ((l, listOf #[.int a ta, .int b tb] 0) :: news) → (∀ p ∈ news, @LT.lt Nat instLTNat p.1 l) →
      0 ≤ a → 0 ≤ b → b ≤ 65290 → Q (.ref l) { s with heap := h, toks := tk }) : wpAny M A c Q E s := by
  refine wpAny_mono (hc .mk) (fun v s₂ hq => ?_) fun _ _ h => h
  obtain ⟨l, a, b, ta, tb, h, tk, hv, hs, F, N, hl, h1, h2, h3⟩ := hq
  subst hv
  subst hs
  exact hk l a b ta tb h tk F N hl h1 h2 h3
theorem scale_end {s : Shared} {h₀ : Heap} {L : Addr} {m : Str → Option Value} {news : List (Addr × Obj)} {l : Addr} {a b : Int} {ta tb : Tok} {h : Heap} {tk : Nat} {s' : Shared}
    (hs : s' = { s with heap := h, toks := tk }) (F : Fr h₀ L h m) (N : News h₀ L h ((l, listOf #[.int a ta, .int b tb] 0) :: news)) (hl : ∀ p ∈ news, @LT.lt Nat instLTNat p.1 l)
    (h1 : 0 ≤ a) (h2 : 0 ≤ b) (h3 : b ≤ 65290) : ScaleEnd h₀ L m news s (.ref l) s' := ⟨l, a, b, ta, tb, h, tk, rfl, hs, F, N, hl, h1, h2, h3⟩
def GrainEnd (h₀ : Heap) (L : Addr) (m : Str → Option Value) (pre post : List (Addr × Obj)) (l : Addr) (many : Int) (s : Shared) (v : Value) (s' : Shared) : Prop :=
  ∃ (r : Int) (t : Tok) (n : Nat) (a b : Int) (ta tb : Tok) (h : Heap) (tk : Nat), v = .int r t ∧ s' = { s with heap := h, toks := tk } ∧ Fr h₀ L h m ∧
    News h₀ L h (pre ++ (l, listOf #[.int a ta, .int b tb] n) :: post) ∧ 0 ≤ r ∧ r < many ∧ 0 ≤ a ∧ 0 ≤ b ∧ b ≤ 65290
theorem grain_cut {M : Model} {A : Around} {E Q : Value → Shared → Prop} {s : Shared} {h₀ : Heap} {L : Addr} {m : Str → Option Value} (pre : List (Addr × Obj)) {post : List (Addr × Obj)} {l : Addr} {many : Int}
    {f x : Expr} {k : Nat} {p pos : Pos} {kw : List Keyword} {env : Env} {n₀ : Nat} {a₀ b₀ : Int} {ta₀ tb₀ : Tok}
    (F : Fr h₀ L s.heap m) (N : News h₀ L s.heap (pre ++ (l, listOf #[.int a₀ ta₀, .int b₀ tb₀] n₀) :: post))
    (hc : CutMark → wpAny M A (eval (.Call f [x, .Constant (.int many) k p] kw pos) env) (fun v s₂ => GrainEnd h₀ L m pre post l many s v s₂) E s)
    (hk : ∀ (r : Int) (t : Tok) (n : Nat) (a b : Int) (ta tb : Tok) (h : Heap) (tk : Nat), Fr h₀ L h m → News h₀ L h (pre ++ (l, listOf #[.int a ta, .int b tb] n) :: post) →
      0 ≤ r → r < many → 0 ≤ a → 0 ≤ b → b ≤ 65290 → Q (.int r t) { s with heap := h, toks := tk }) : wpAny M A (eval (.Call f [x, .Constant (.int many) k p] kw pos) env) Q E s := by
  refine wpAny_mono (hc .mk) (fun v s₂ hq => ?_) fun _ _ h => h
  obtain ⟨r, t, n, a, b, ta, tb, h, tk, hv, hs, F, N, h0, h1, h2, h3, h4⟩ := hq
  subst hv
  subst hs
  exact hk r t n a b ta tb h tk F N h0 h1 h2 h3 h4
theorem grain_end {s : Shared} {h₀ : Heap} {L : Addr} {m : Str → Option Value} {pre post : List (Addr × Obj)} {l : Addr} {many : Int} {r : Int} {t : Tok} {n : Nat} {a b : Int} {ta tb : Tok} {h : Heap} {tk : Nat} {s' : Shared}
    (hs : s' = { s with heap := h, toks := tk }) (F : Fr h₀ L h m) (N : News h₀ L h (pre ++ (l, listOf #[.int a ta, .int b tb] n) :: post))
    (h0 : 0 ≤ r) (hr : r < many) (h1 : 0 ≤ a) (h2 : 0 ≤ b) (h3 : b ≤ 65290) : GrainEnd h₀ L m pre post l many s (.int r t) s' := ⟨r, t, n, a, b, ta, tb, h, tk, rfl, hs, F, N, h0, hr, h1, h2, h3⟩
def DrawEl (l : Addr) (post : List (Addr × Obj)) (y : Value) (news' : List (Addr × Obj)) : Prop :=
  ∃ (r : Int) (t : Tok) (a b : Int) (ta tb : Tok) (n : Nat), y = .int r t ∧ news' = (l, listOf #[.int a ta, .int b tb] n) :: post ∧ 1 ≤ r ∧ r ≤ 65535 ∧ 0 ≤ a ∧ 0 ≤ b ∧ b ≤ 65290
section
variable {prog : Program} {w : World} {A : Around} {h₀ : Heap} {L : Addr} {m : Str → Option Value} {env : Env} {elt : Expr} {x : Str} {scope : Scope} {cl : List (Str × Addr)} {s : Shared} {S : List (Addr × Obj) → Prop} {Fin : List Value → List (Addr × Obj) → Prop} {post : List (Addr × Obj)} {l : Addr}
theorem draw_rest {N : Nat} {k₀ a₀ b₀ : Int} {ta₀ tb₀ : Tok} {n₀ : Nat} (h1 : 0 ≤ a₀) (h2 : 0 ≤ b₀) (h3 : b₀ ≤ 65290)
    (turn : ∀ k t I oI C oC D m₂ ys (a b : Int) ta tb n h tk (E' : Value → Shared → Prop), ys.length ≤ N → 0 ≤ a → 0 ≤ b → b ≤ 65290 → LCg.NsObj oC m₂ → m₂ x = some (.int k t) → Fr h₀ L h m → News h₀ L h ((I, oI) :: (C, oC) :: (D, LCg.lst ys) :: (l, listOf #[.int a ta, .int b tb] n) :: post) → LCg.Off3 I C D ((l, listOf #[.int a ta, .int b tb] n) :: post) → ((@Ne Nat I C) ∧ (@Ne Nat I D) ∧ (@Ne Nat C D)) →
      wpAny (model prog w) A (eval elt (compEnvC scope cl C env)) (LCg.CompEnd h₀ L m { s with heap := h, toks := tk } I oI C oC D (LCg.lst ys) S (fun y news' => DrawEl l post y news')) E' { s with heap := h, toks := tk })
    (fin : ∀ ys rs (a b : Int) ta tb n, IntsAre ys rs → rs.length = N → (∀ r ∈ rs, 1 ≤ r ∧ r ≤ 65535) → 0 ≤ a → 0 ≤ b → b ≤ 65290 → Fin ys ((l, listOf #[.int a ta, .int b tb] n) :: post)) :
    LCg.CompRest prog w A h₀ L m env elt x scope cl s S (fun i v => ∃ t, v = .int (k₀ + (i : Int)) t) Fin N 0 [] ((l, listOf #[.int a₀ ta₀, .int b₀ tb₀] n₀) :: post) := by
  have key : ∀ (j i : Nat) (ys : List Value) (rs : List Int) (a b : Int) (ta tb : Tok) (n : Nat), i + j = N → IntsAre ys rs → rs.length = i → (∀ r ∈ rs, 1 ≤ r ∧ r ≤ 65535) → 0 ≤ a → 0 ≤ b → b ≤ 65290 →
      LCg.CompRest prog w A h₀ L m env elt x scope cl s S (fun i v => ∃ t, v = .int (k₀ + (i : Int)) t) Fin j i ys ((l, listOf #[.int a ta, .int b tb] n) :: post) := by
    intro j
    induction j with
    | zero =>
      intro i ys rs a b ta tb n hi hy hr hall ha hb hb2
      exact LCg.CompRest.zero (fin ys rs a b ta tb n hy (by omega) hall ha hb hb2)
    | succ j ih =>
      intro i ys rs a b ta tb n hi hy hr hall ha hb hb2
      refine LCg.CompRest.succ ?_
      intro v I oI C oC D m₂ h tk E' hv hC hx F N' off ne
      obtain ⟨t, hv'⟩ := hv
      rw [hv'] at hx
      refine wpAny_mono (turn _ t I oI C oC D m₂ ys a b ta tb n h tk E' (by have := hy.length; omega) ha hb hb2 hC hx F N' off ne) (fun y s₂ hq => ?_) fun _ _ e => e
      obtain ⟨h', tk', nw, e, F', N'', off', hS, r, t', a', b', ta', tb', n', hy', hn, hr1, hr2, ha', hb', hb2'⟩ := hq
      rw [hn] at N'' off' hS
      refine ⟨h', tk', _, e, F', N'', off', hS, ?_⟩
      rw [hy']
      refine ih (i + 1) _ (rs ++ [r]) a' b' ta' tb' n' (by omega) (IntsAre.append hy (.cons r t' .nil)) (by simp [hr]) ?_ ha' hb' hb2'
      intro q hq
      rcases List.mem_append.mp hq with hq | hq
      · exact hall q hq
      · rw [List.mem_singleton.mp hq]; exact ⟨hr1, hr2⟩
  exact key N 0 [] [] a₀ b₀ ta₀ tb₀ n₀ (by omega) .nil rfl (fun _ h => nomatch h) h1 h2 h3
theorem draw_end {I C D : Addr} {oI oC oD : Obj} {s₁ : Shared} {h' : Heap} {tk : Nat} {all : List (Addr × Obj)} {r : Int} {t : Tok} {a b : Int} {ta tb : Tok} {n : Nat}
    (F : Fr h₀ L h' m) (N : News h₀ L h' all) (sub : ∀ p ∈ (I, oI) :: (C, oC) :: (D, oD) :: (l, listOf #[.int a ta, .int b tb] n) :: post, p ∈ all) (off : LCg.Off3 I C D ((l, listOf #[.int a ta, .int b tb] n) :: post))
    (hS : S ((l, listOf #[.int a ta, .int b tb] n) :: post)) (h1 : 1 ≤ r ∧ r ≤ 65535) (h3 : 0 ≤ a) (h4 : 0 ≤ b) (h5 : b ≤ 65290) :
    LCg.CompEnd h₀ L m s₁ I oI C oC D oD S (fun y news' => DrawEl l post y news') (.int r t) { s₁ with heap := h', toks := tk } :=
  LCg.CompEnd.intro F N _ sub off hS ⟨r, t, a, b, ta, tb, n, rfl, rfl, h1.1, h1.2, h3, h4, h5⟩
end
theorem pick5 {a b c d e k lo hi : Int} (h0 : 0 ≤ k) (h5 : k < 5) (ha : lo ≤ a ∧ a ≤ hi) (hb : lo ≤ b ∧ b ≤ hi) (hc : lo ≤ c ∧ c ≤ hi) (hd : lo ≤ d ∧ d ≤ hi) (he : lo ≤ e ∧ e ≤ hi) :
    lo ≤ [a, b, c, d, e].getD k.toNat 0 ∧ [a, b, c, d, e].getD k.toNat 0 ≤ hi := by
  have : k.toNat = 0 ∨ k.toNat = 1 ∨ k.toNat = 2 ∨ k.toNat = 3 ∨ k.toNat = 4 := by omega
  rcases this with h | h | h | h | h <;> rw [h] <;> assumption
theorem pick3 {a b c k lo hi : Int} (h0 : 0 ≤ k) (h5 : k < 3) (ha : lo ≤ a ∧ a ≤ hi) (hb : lo ≤ b ∧ b ≤ hi) (hc : lo ≤ c ∧ c ≤ hi) :
    lo ≤ [a, b, c].getD k.toNat 0 ∧ [a, b, c].getD k.toNat 0 ≤ hi := by
  have : k.toNat = 0 ∨ k.toNat = 1 ∨ k.toNat = 2 := by omega
  rcases this with h | h | h <;> rw [h] <;> assumption
theorem pick8 {a b c d e f g i k lo hi : Int} (h0 : 0 ≤ k) (h5 : k < 8) (ha : lo ≤ a ∧ a ≤ hi) (hb : lo ≤ b ∧ b ≤ hi) (hc : lo ≤ c ∧ c ≤ hi) (hd : lo ≤ d ∧ d ≤ hi) (he : lo ≤ e ∧ e ≤ hi) (hf : lo ≤ f ∧ f ≤ hi) (hg : lo ≤ g ∧ g ≤ hi) (hi' : lo ≤ i ∧ i ≤ hi) :
    lo ≤ [a, b, c, d, e, f, g, i].getD k.toNat 0 ∧ [a, b, c, d, e, f, g, i].getD k.toNat 0 ≤ hi := by
  have : k.toNat = 0 ∨ k.toNat = 1 ∨ k.toNat = 2 ∨ k.toNat = 3 ∨ k.toNat = 4 ∨ k.toNat = 5 ∨ k.toNat = 6 ∨ k.toNat = 7 := by omega
  rcases this with h | h | h | h | h | h | h | h <;> rw [h] <;> assumption
theorem store_named {M : Model} {A : Around} {env : Env} {x : Str} {v lo hi : Int} {t : Tok} {Q : Unit → Shared → Prop} {E : Value → Shared → Prop} {s : Shared} (hb : lo ≤ v ∧ v ≤ hi)
    (H : ∀ v', lo ≤ v' → v' ≤ hi → wpAny M A (storeName env x (.int v' t)) Q E s) : wpAny M A (storeName env x (.int v t)) Q E s := H v hb.1 hb.2
section
variable {prog : Program} {w : World} {A : Around} {E : Value → Shared → Prop} {s : Shared}
theorem collect_tup {l : Addr} {vs : List Value} {Q : List Value → Shared → Prop} (hl : IsTup s.heap l vs.toArray) (hsz : vs.length ≤ sizeLine)
    (h : Q vs { s with heap := (s.heap.push (seqObj "list" #[] 0)).update s.heap.objs.size (Obj.mapSeq (· ++ vs.toArray)) }) :
    wpAny (model prog w) A (collect (.ref l)) Q E s := by
  obtain ⟨o, ho, hc, n, hd⟩ := hl
  have old : (s.heap.push (seqObj "list" #[] 0)).get? l = some o := Heap.get?_push_of_some _ ho
  have new : (s.heap.push (seqObj "list" #[] 0)).get? s.heap.objs.size = some (seqObj "list" #[] 0) := Heap.get?_push_size _ rfl
  unfold collect
  refine wpAny_bind (wpAny_runValue (codeAny_builtin entry_proto_collect' ?_))
  show wpAny _ _ (do again (.builtin "list.__iadd__" ⟨[← newList [], .ref l], []⟩)) _ _ s
  refine wpAny_bind (wpAny_newList (wpAny_pure ⟨Code.quiet_builtin _ (by decide +kernel), codeAny_builtin entry_list_iadd' ?_⟩))
  show wpAny _ _ (Builtin.List.listExtendWith (.ref s.heap.objs.size) (.ref l) (.ref s.heap.objs.size)) _ _ { s with heap := s.heap.push (seqObj "list" #[] 0) }
  unfold Builtin.List.listExtendWith
  refine wpAny_bind (wpAny_typeOf (T := "tuple") ⟨o, old, hc⟩ ?_)
  have yes : (Value.type "tuple" == Value.type "tuple") = true := by rfl
  rw [if_pos (by rw [yes]; simp)]
  refine wpAny_bind (listItems_at old hd ?_)
  refine wpAny_bind (listItems_at new rfl ?_)
  rw [if_neg (by simp)]
  refine wpAny_bind (listUpdate_at new rfl ?_ (Nat.zero_le _) (by show (#[] ++ vs.toArray).size ≤ sizeLine + 1; simp only [Array.size_append, List.size_toArray, List.length_nil]; omega))
  refine wpAny_pure ?_
  show wpAny (model prog w) A (do
      let o ← load s.heap.objs.size
      match o.data with
      | .seq xs _ => pure xs.toList
      | _ => unsupported "internal:collect") Q E { s with heap := (s.heap.push (seqObj "list" #[] 0)).update s.heap.objs.size (Obj.mapSeq (· ++ vs.toArray)) }
  refine wpAny_bind (wpAny_load (get?_update_seq new _) ?_)
  have items : ((#[] : Array Value) ++ vs.toArray).toList = vs := by simp
  show wpAny _ _ (pure ((#[] : Array Value) ++ vs.toArray).toList) Q E _
  rw [items]
  exact wpAny_pure h
theorem sorted_tup {l : Addr} {vs : List Value} {ns : List Int} {Q : Value → Shared → Prop} (hl : IsTup s.heap l vs.toArray) (hI : IntsAre vs ns) (h64 : vs.length < 64)
    (h : ∀ (out : Array Value) (ns' : List Int), IntsAre out.toList ns' → ns'.Perm ns → ns'.Pairwise (· ≤ ·) → Q (.ref (s.heap.objs.size + 1)) { s with heap := sortedAll s.heap vs out }) :
    wpAny (model prog w) A (call (.builtin "sorted") [.ref l]) Q E s := by
  refine Calls.call_function_entry kind_sorted plain_sorted entry_sorted (args_sorted1 _) ?_
  unfold Builtin.«sorted»
  refine wpAny_bind (m := checkCount "sorted" 1 1 _) (wpAny_pure ?_)
  refine wpAny_bind (collect_tup hl (by rw [sizeLine_eq]; omega) ?_)
  refine wpAny_bind (wpAny_newList ?_ (by rw [sizeLine_eq]; omega))
  have grown : ((s.heap.push (seqObj "list" #[] 0)).update s.heap.objs.size (Obj.mapSeq (· ++ vs.toArray))).objs.size = s.heap.objs.size + 1 := by
    rw [Heap.size_update, size_push']
  have made : (((s.heap.push (seqObj "list" #[] 0)).update s.heap.objs.size (Obj.mapSeq (· ++ vs.toArray))).push (seqObj "list" vs.toArray 0)).get? (s.heap.objs.size + 1) = some (seqObj "list" vs.toArray 0) := by
    rw [← grown]; exact Heap.get?_push_size _ rfl
  show wpAny _ _ _ _ _ { s with heap := ((s.heap.push (seqObj "list" #[] 0)).update s.heap.objs.size (Obj.mapSeq (· ++ vs.toArray))).push (seqObj "list" vs.toArray 0) }
  rw [grown]
  refine wpAny_bind (wpAny_holding (wpAny_call_entry slot_list_sort ⟨_, made, rfl⟩ entry_list_sort (list_sort_tree made hI h64 fun out ns' a1 a2 a3 => ⟨_, rfl, ?_⟩) (args_list_sort _)))
  exact wpAny_pure ⟨_, rfl, h out ns' a1 a2 a3⟩
end
theorem ints3 {vs : List Value} {a b c : Int} (h : IntsAre vs [a, b, c]) : ∃ t u v, vs = [.int a t, .int b u, .int c v] := by
  cases h with
  | cons _ t h => cases h with
    | cons _ u h => cases h with
      | cons _ v h => cases h; exact ⟨t, u, v, rfl⟩
theorem perm_sum {l l' : List Int} (h : l.Perm l') : l.sum = l'.sum := by
  induction h with
  | nil => rfl
  | cons x _ ih => simp only [List.sum_cons, ih]
  | swap x y l => simp only [List.sum_cons]; omega
  | trans _ _ a b => exact a.trans b
theorem middle {a b c : Int} {ns : List Int} (hac : a ≤ c) (hp : ns.Perm [a, b, c]) (ho : ns.Pairwise (· ≤ ·)) : ∃ p q, ns = [p, max a (min c b), q] := by
  have hl := hp.length_eq
  match ns, hl with
  | [x, y, z], _ =>
    refine ⟨x, z, ?_⟩
    have hx : x ∈ [a, b, c] := hp.mem_iff.mp (by simp)
    have hz : z ∈ [a, b, c] := hp.mem_iff.mp (by simp)
    have ha : a ∈ [x, y, z] := hp.mem_iff.mpr (by simp)
    have hb : b ∈ [x, y, z] := hp.mem_iff.mpr (by simp)
    have hc : c ∈ [x, y, z] := hp.mem_iff.mpr (by simp)
    have hs : [x, y, z].sum = [a, b, c].sum := perm_sum hp
    simp only [List.mem_cons, List.not_mem_nil, or_false, List.sum_cons, List.sum_nil] at hx hz ha hb hc hs
    simp only [List.pairwise_cons, List.mem_cons, List.not_mem_nil, or_false, forall_eq_or_imp, forall_eq] at ho
    have e : y = max a (min c b) := by omega
    rw [e]
section
variable {prog : Program} {w : World} {A : Around} {E : Value → Shared → Prop} {s : Shared} {h₀ : Heap} {L l : Addr} {m : Str → Option Value} {news : List (Addr × Obj)} {Q : Value → Shared → Prop}
theorem divmod_K {a b : Int} {t u : Tok} (F : Fr h₀ L s.heap m) (N : News h₀ L s.heap news) (hb : b ≠ 0) (hp : Builtin.divisionGoesByPylong a b = false)
    (h : ∀ D x y h' tk, Fr h₀ L h' m → News h₀ L h' ((D, ({ cls := .type "tuple", data := .seq #[.int (a.fdiv b) x, .int (a.fmod b) y] } : Obj)) :: news) → (∀ q ∈ news, q.1 < D) → Q (.ref D) { s with heap := h', toks := tk }) :
    wpAny (model prog w) A (call (.builtin "divmod") [.int a t, .int b u]) Q E s :=
  divmod_N F N hb (fun h' F' N' => h _ _ _ h' _ F' N' fun q hq => Heap.lt_size (N q hq).1) (.inl hp)
theorem sorted3 {a b c : Int} {ta tb tc : Tok} {n : Nat} (F : Fr h₀ L s.heap m) (N : News h₀ L s.heap news) (hm : (l, ({ cls := .type "tuple", data := .seq #[.int a ta, .int b tb, .int c tc] n } : Obj)) ∈ news) (hac : a ≤ c)
    (h : ∀ D p q t u v e h', Fr h₀ L h' m → News h₀ L h' ((D, listOf #[.int p t, .int (max a (min c b)) u, .int q v] e) :: news) → (∀ x ∈ news, x.1 < D) → Q (.ref D) { s with heap := h' }) :
    wpAny (model prog w) A (call (.builtin "sorted") [.ref l]) Q E s := by
  have hl : IsTup s.heap l [Value.int a ta, .int b tb, .int c tc].toArray := ⟨_, (N _ hm).1, rfl, n, rfl⟩
  refine sorted_tup hl (.cons a ta (.cons b tb (.cons c tc .nil))) (by show 3 < 64; decide) fun out ns' a1 a2 a3 => ?_
  obtain ⟨p, q, e⟩ := middle hac a2 a3
  rw [e] at a1
  obtain ⟨t, u, v, e2⟩ := ints3 a1
  obtain ⟨k, hk⟩ := sortedAll_at s.heap [Value.int a ta, .int b tb, .int c tc] out
  have e3 : out = #[.int p t, .int (max a (min c b)) u, .int q v] := by
    apply Array.toList_inj.mp; rw [e2]
  rw [e3] at hk ⊢
  exact h _ p q t u v k _ (F.kept fun _ _ => sortedAll_old) (N.kept_cons F (fun _ _ => sortedAll_old) (Nat.le_succ _) hk) fun x hx => Nat.lt_succ_of_lt (Heap.lt_size (N x hx).1)
end
def due1 (hu mo x : Int) : Int := max 1 (min mo ((x * hu + 50).fdiv 100))
theorem due_item {x hu mo : Int} {c : Prop} [Decidable c] (hc : c ↔ 50 ≤ (x * hu).fmod 100) : max 1 (min mo ((x * hu).fdiv 100 + if c then 1 else 0)) = due1 hu mo x := by
  unfold due1
  rw [Int.fmod_eq_emod_of_nonneg _ (by decide)] at hc
  rw [Int.fdiv_eq_ediv_of_nonneg _ (by decide), Int.fdiv_eq_ediv_of_nonneg _ (by decide)]
  generalize x * hu = z at *
  by_cases h : c
  · rw [if_pos h]; have := hc.mp h; omega
  · rw [if_neg h]; have : ¬ 50 ≤ z % 100 := fun q => h (hc.mpr q); omega
theorem due_turn {pre due : List Int} {x hu mo v : Int} (h1 : due.length = pre.length) (h2 : due = pre.map (due1 hu mo)) (hv : v = due1 hu mo x) :
    (due ++ [v]).length = (pre ++ [x]).length ∧ due ++ [v] = (pre ++ [x]).map (due1 hu mo) := by
  refine ⟨by simp [h1], ?_⟩
  rw [List.map_append, ← h2, hv]; rfl
theorem told_item {z mo : Int} : (if (if z < mo then z else mo) > 1 then (if z < mo then z else mo) else 1) = max 1 (min mo z) := by
  by_cases h : z < mo
  · rw [if_pos h]; by_cases k : z > 1
    · rw [if_pos k]; omega
    · rw [if_neg k]; omega
  · rw [if_neg h]; by_cases k : mo > 1
    · rw [if_pos k]; omega
    · rw [if_neg k]; omega
theorem told_due {rs due : List Int} {hu mo : Int} (h : due = rs.map (due1 hu mo)) :
    rs.map (fun k => if (if (k * hu + 50).fdiv 100 < mo then (k * hu + 50).fdiv 100 else mo) > 1 then (if (k * hu + 50).fdiv 100 < mo then (k * hu + 50).fdiv 100 else mo) else 1) = due := by
  rw [h]; exact List.map_congr_left fun _ _ => told_item
end Mine
local macro_rules | `(tactic| walk_at "eval Call") => `(tactic| (k_here; (with_reducible show wpAny _ _ (eval (Expr.Call (Expr.Name (Str.ofString "_law_scale") _) _ _ _) _) _ _ _); (fail_if_success (have hq : Mine.CutMark := by with_reducible assumption)); (rename Fr _ _ _ _ => cF'); (rename News _ _ _ _ => cN'); focus ((refine Mine.scale_cut cF' cN' ?_ ?_); (intro hMark'); rotate_left; (intro l' a' b' ta' tb' h' tk' F' N' hl' ha' hb' hb2'); (specialize hl' _ List.mem_cons_self); (dsimp only at hl'); (try dsimp only); (try k_sweep); rotate_left)))
local macro_rules | `(tactic| walk_at "ScaleEnd") => `(tactic| (k_here; (rename Fr _ _ _ _ => cF'); (rename News _ _ _ _ => cN'); (with_unfolding_all refine Mine.scale_end rfl cF' cN' ?hl ?_ ?_ ?_); (case hl => (intro p hp; simp only [List.mem_cons, List.not_mem_nil, or_false] at hp; subst hp; assumption)); all_goals (try law_lens); all_goals law_clear; all_goals (first | omega | (law_fm; omega))))
local macro_rules | `(tactic| walk_at "eval Call") => `(tactic| (k_here; (with_reducible show wpAny _ _ (eval (Expr.Call (Expr.Name (Str.ofString "_law_grain") _) _ _ _) _) _ _ _); (fail_if_success (have hq : Mine.CutMark := by with_reducible assumption)); (rename Fr _ _ _ _ => cF'); (rename News _ _ _ _ => cN'); focus ((first | (with_unfolding_all refine Mine.grain_cut [] cF' cN' ?_ ?_) | (with_unfolding_all refine Mine.grain_cut [_] cF' cN' ?_ ?_) | (with_unfolding_all refine Mine.grain_cut [_, _] cF' cN' ?_ ?_) | (with_unfolding_all refine Mine.grain_cut [_, _, _] cF' cN' ?_ ?_) | (with_unfolding_all refine Mine.grain_cut [_, _, _, _] cF' cN' ?_ ?_) | (with_unfolding_all refine Mine.grain_cut [_, _, _, _, _] cF' cN' ?_ ?_)); (intro hMark'); rotate_left; (intro r' t' n' a' b' ta' tb' h' tk' F' N' hr' hr2' ha' hb' hb2'); (try simp only [List.nil_append, List.cons_append, List.append_nil] at N'); (try dsimp only); (try k_sweep); rotate_left)))
local macro_rules | `(tactic| walk_at "GrainEnd") => `(tactic| (k_here; (rename Fr _ _ _ _ => cF'); (rename News _ _ _ _ => cN'); (with_unfolding_all refine Mine.grain_end rfl cF' cN' ?_ ?_ ?_ ?_ ?_); all_goals (try law_lens); all_goals law_clear; all_goals (first | omega | (law_fm; omega))))
local macro_rules | `(tactic| walk_at "CompSrc") => `(tactic| (k_here; k_dflt (refine LCg.CompSrc.range (by rfl) (by k_asm) (by k_asm) (by assumption) (by exact small_one (by omega) (by omega) (by omega) (by omega)) (by exact rangeSize_nat _ _) (by rw [PySem.sizeLine_eq]; omega) ?_); intro g'; focus ((refine Mine.draw_rest (by assumption) (by assumption) (by assumption) ?_ ?_); (intro k' t' I' oI' C' oC' D' m' ys' a' b' ta' tb' n' h' tk' E' hlen' ha' hb' hb2' hC' hx' F' N' off' ne'; (try simp only [LCg.Off3, and_true] at off'); (try k_fold)); rotate_left; (intro ys' rs' a' b' ta' tb' n' hI' hlen' hall' ha' hb' hb2'); rotate_left)))
local macro_rules | `(tactic| walk_at "CompEnd") => `(tactic| (k_here; goal_has Mine.DrawEl; (refine Mine.draw_end (by assumption) (by assumption) (by kcf_all) (by simp only [LCg.Off3, and_true]; assumption) (by trivial) (Mine.pick5 ?_ ?_ ⟨?_, ?_⟩ ⟨?_, ?_⟩ ⟨?_, ?_⟩ ⟨?_, ?_⟩ ⟨?_, ?_⟩) ?_ ?_ ?_); all_goals omega))
local macro_rules | `(tactic| walk_at "storeName") => `(tactic| (k_here; (with_reducible show wpAny _ _ (storeName _ (Str.ofString "hundredths") (Value.int (List.getD _ _ _) _)) _ _ _); (refine Mine.store_named (lo := 0) (hi := 5000) (Mine.pick8 (by omega) (by omega) ⟨by omega, by omega⟩ ⟨by omega, by omega⟩ ⟨by omega, by omega⟩ ⟨by omega, by omega⟩ ⟨by omega, by omega⟩ ⟨by omega, by omega⟩ ⟨by omega, by omega⟩ ⟨by omega, by omega⟩) ?_); intro hun' hunlo' hunhi'))
local macro_rules | `(tactic| walk_at "storeName") => `(tactic| (k_here; (with_reducible show wpAny _ _ (storeName _ (Str.ofString "most") (Value.int (List.getD _ _ _) _)) _ _ _); (refine Mine.store_named (lo := 1) (hi := 65535) (Mine.pick3 (by omega) (by omega) ⟨by omega, by omega⟩ ⟨by omega, by omega⟩ ⟨by omega, by omega⟩) ?_); intro most' mostlo' mosthi'))
local macro_rules | `(tactic| walk_at "call builtin:sorted") => `(tactic| (k_here; (with_reducible show wpAny _ _ (call (Value.builtin _) [Value.ref _]) _ _ _); (rename Fr _ _ _ _ => cF'); (rename News _ _ _ _ => cN'); k_dflt (refine Mine.sorted3 cF' cN' (by k_mem) (by omega) ?_); (intro D' p' q' t' u' v' e' h' F' N' l1); (try k_lt l1); (try k_sweep)))
local macro_rules | `(tactic| walk_at "call builtin:list.append") => `(tactic| (k_here; (with_reducible show wpAny _ _ (call (Value.builtin _) [Value.ref _, _]) _ _ _); k_dflt (refine' append_K ?k1 ?k2 ?k3 ?_ ?z; (case k1 => k_asm); (case k2 => k_asm); (case k3 => k_upd); (case z => ((simp only [List.size_toArray]); rw [PySem.sizeLine_eq]; omega)); k_whole); intro h' F' N'; (try k_sweep)))
local macro_rules | `(tactic| walk_at "call builtin:divmod") => `(tactic| (k_here; (with_reducible show wpAny _ _ (call (Value.builtin _) [Value.int _ _, Value.int _ _]) _ _ _); (rename Fr _ _ _ _ => cF'); (rename News _ _ _ _ => cN'); k_dflt (refine Mine.divmod_K cF' cN' (by decide) (by first | exact PyProof.noPylong_of_log2 (by decide +kernel) | exact PyProof.noPylong_small (by omega)) ?_); (intro D' x' y' h' tk' F' N' l1); (try k_lt l1); (try k_sweep)))
local macro_rules | `(tactic| walk_at "call builtin:isinstance") => `(tactic| (k_here; (with_reducible show wpAny _ _ (call _ [Value.ref _, Value.type _]) _ _ _); k_dflt (kit_obj kitx_tuple)))
set_option maxRecDepth 100000 in
set_option maxHeartbeats 8000000 in
theorem PySem.Challenge.cw_xm0782_01_holds : PySem.Challenge.rw_xm0782_01.Holds := by
  (k_with "pyIter ref" => k_state_given ["hundredths", "most"] (fun hu mo pre due => due.length = pre.length ∧ due = pre.map (Mine.due1 hu mo)) "due")
  (k_with "state" => (first | exact ⟨rfl, rfl⟩ | exact Mine.due_turn (by assumption) (by assumption) (Mine.due_item (by first | exact Iff.rfl | exact decide_eq_true_iff | simp))))
  (k_with "end" => exact absurd (Mine.told_due (by assumption)) (by assumption))
  open_k
