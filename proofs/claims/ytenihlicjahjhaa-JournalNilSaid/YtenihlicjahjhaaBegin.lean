/-
  Begin: where a line begins in a rope's text: the walk of begin.
-/
import Derived.Test.YtenihlicjahjhaaLines
import Derived.Test.YtenihlicjahjhaaRegL
import Derived.Lib.IndexLaws
import Derived.Laws.Rows
set_option linter.unusedVariables false
set_option linter.unusedSimpArgs false
namespace Go.Proofs.Ytenihlicjahjhaa
open Go Go.RowKit Go.Proofs Go.Shelf
attribute [local go_sem] Oper.semAt_some

/-- where the n-th line begins; the end, if there are no more lines -/
def begAt : Nat → List UInt8 → Nat
  | 0, _ => 0
  | n + 1, s => if Lib.indexByte s 10 < 0 then s.length else (Lib.indexByte s 10).toNat + 1 + begAt n (s.drop ((Lib.indexByte s 10).toNat + 1))

theorem indexByte_append (r t : List UInt8) (c : UInt8) :
    Lib.indexByte (r ++ t) c = if Lib.indexByte r c < 0 then (if Lib.indexByte t c < 0 then -1 else r.length + Lib.indexByte t c) else Lib.indexByte r c := by
  induction r with
  | nil =>
    have := Lib.indexByte_ge t c
    simp only [List.nil_append, Lib.indexByte, List.length_nil]
    rw [if_pos (by decide)]
    split <;> omega
  | cons b l ih =>
    have h1 := Lib.indexByte_ge l c
    have h2 := Lib.indexByte_ge t c
    simp only [List.cons_append, Lib.indexByte, List.length_cons, ih, beq_iff_eq]
    split
    · rfl
    · by_cases hl : Lib.indexByte l c < 0
      · have e : Lib.indexByte l c = -1 := by omega
        rw [e]
        by_cases ht : Lib.indexByte t c < 0
        · simp [ht]
        · have e2 : ¬ ((l.length : Int) + Lib.indexByte t c = -1) := by omega
          simp [ht, e2]; omega
      · have e1 : ¬ (Lib.indexByte l c = -1) := by omega
        have e2 : ¬ (Lib.indexByte l c + 1 < 0) := by omega
        simp [hl, e1, e2]

theorem indexByte_lt {r : List UInt8} {c : UInt8} (h : ¬ Lib.indexByte r c < 0) : (Lib.indexByte r c).toNat < r.length := by
  have h1 := Lib.indexByte_some (l := r) (c := c) (o := (Lib.indexByte r c).toNat) (by omega)
  exact (List.getElem?_eq_some_iff.1 h1.1).1

theorem begAt_nil (n : Nat) : begAt n [] = 0 := by cases n <;> simp [begAt, Lib.indexByte]

theorem begAt_le : ∀ (n : Nat) (s : List UInt8), begAt n s ≤ s.length
  | 0, s => Nat.zero_le _
  | n + 1, s => by
    unfold begAt
    split
    · exact Nat.le_refl _
    · rename_i h
      have := begAt_le n (s.drop ((Lib.indexByte s 10).toNat + 1))
      have := indexByte_lt h
      rw [List.length_drop] at *
      omega

theorem begAt_none {r : List UInt8} (h : Lib.indexByte r 10 < 0) (m : Nat) (t : List UInt8) : begAt (m + 1) (r ++ t) = r.length + begAt (m + 1) t := by
  have h2 := Lib.indexByte_ge t 10
  unfold begAt
  rw [indexByte_append, if_pos h]
  by_cases ht : Lib.indexByte t 10 < 0
  · rw [if_pos ht, if_pos (by decide), if_pos ht, List.length_append]
  · rw [if_neg ht, if_neg (by omega), if_neg ht, show ((r.length : Int) + Lib.indexByte t 10).toNat = r.length + (Lib.indexByte t 10).toNat by omega]
    rw [show r.length + (Lib.indexByte t 10).toNat + 1 = r.length + ((Lib.indexByte t 10).toNat + 1) by omega, List.drop_length_add_append]
    omega

theorem begAt_some {r : List UInt8} (h : ¬ Lib.indexByte r 10 < 0) (m : Nat) (t : List UInt8) :
    begAt (m + 1) (r ++ t) = (Lib.indexByte r 10).toNat + 1 + begAt m (r.drop ((Lib.indexByte r 10).toNat + 1) ++ t) := by
  have h1 := indexByte_lt h
  rw [begAt, indexByte_append, if_neg h, if_neg h, List.drop_append_of_le_length (by omega)]

/-- begin's three cells -/
structure Three (w : World) (m z a : Int) (W : World) : Prop where
  n : W.heap[w.heap.size]? = some (.cells #[.int .i64 m] 3)
  r : W.heap[w.heap.size + 1]? = some (.cells #[.int .i64 z] 3)
  at' : W.heap[w.heap.size + 2]? = some (.cells #[.int .i64 a] 3)
  below : Below w.heap.size w W

theorem Three.tame (w w0 : World) (n z a : Int) (hw : w.heap.size + 3 ≤ w0.heap.size) {A C : World} (h : Three w n z a A) (hb : Below w0.heap.size A C) : Three w n z a C :=
  ⟨(hb.block _ (by omega)).trans h.n, (hb.block _ (by omega)).trans h.r, (hb.block _ (by omega)).trans h.at', h.below.trans (hb.mono (by omega))⟩

/-- the cells' facts, as a walk uses them -/
theorem box_facts {W : World} {b : Nat} {v : Value} {t : Nat} (h : W.heap[b]? = some (.cells #[v] t)) : W.cell? ⟨b, 0, none⟩ = some v ∧ W.frozen? ⟨b, 0, none⟩ = false := by
  constructor
  · exact cell_row h 0
  · simp [World.frozen?, h]

theorem box_set {W : World} {b : Nat} {v : Value} {t : Nat} (h : W.heap[b]? = some (.cells #[v] t)) (u : Value) : (W.setCell ⟨b, 0, none⟩ u).heap[b]? = some (.cells #[u] t) := by
  have := lt_of_heap h
  simp [World.setCell, Array.getElem?_modify, h]

theorem Three.setN {w W : World} {m z a : Int} (h : Three w m z a W) (m' : Int) : Three w m' z a (W.setCell ⟨w.heap.size, 0, none⟩ (.int .i64 m')) :=
  ⟨box_set h.n _, (Below.heap_setCell _ _ _ _ (by show w.heap.size + 1 ≠ w.heap.size; omega)).trans h.r, (Below.heap_setCell _ _ _ _ (by show w.heap.size + 2 ≠ w.heap.size; omega)).trans h.at', h.below.setCell (Nat.le_refl _) _⟩
theorem Three.setR {w W : World} {m z a : Int} (h : Three w m z a W) (z' : Int) : Three w m z' a (W.setCell ⟨w.heap.size + 1, 0, none⟩ (.int .i64 z')) :=
  ⟨(Below.heap_setCell _ _ _ _ (by show w.heap.size ≠ w.heap.size + 1; omega)).trans h.n, box_set h.r _, (Below.heap_setCell _ _ _ _ (by show w.heap.size + 2 ≠ w.heap.size + 1; omega)).trans h.at', h.below.setCell (Nat.le_succ _) _⟩
theorem Three.setAt {w W : World} {m z a : Int} (h : Three w m z a W) (a' : Int) : Three w m z a' (W.setCell ⟨w.heap.size + 2, 0, none⟩ (.int .i64 a')) :=
  ⟨(Below.heap_setCell _ _ _ _ (by show w.heap.size ≠ w.heap.size + 2; omega)).trans h.n, (Below.heap_setCell _ _ _ _ (by show w.heap.size + 1 ≠ w.heap.size + 2; omega)).trans h.r, box_set h.at' _, h.below.setCell (by show w.heap.size ≤ w.heap.size + 2; omega) _⟩

theorem results_cell_int {fn : Func} {p : Tmp} (h : fn.results = #[.cell p 3]) {tmps : Array Value} {w : World} {a : Addr} {v : Value} (hp : tmps.getD p undef = .pointer (some a)) (hc : w.cell? a = some v) : (results fn tmps).run Try.prog w = .ok v w := by
  have hp' : tmps[p]?.getD undef = .pointer (some a) := by simpa using hp
  simp [results, h, loadVar, hp', asAddr, isAgg, Try.underlying3, go_sem, load, Sem.run, hc, Result.andThen]

theorem IndexByte_calls (r : List UInt8) (w : World) : Calls Try.prog 139 #[.string ⟨r.toArray⟩, .int .u8 10] w fun e w' => e = .returned (.int .i64 (Lib.indexByte r 10)) ∧ w = w' :=
  (Try.strings_IndexByte _ _ _).mono fun _ _ h => ⟨h.1, h.2.symm⟩

/-- what is known between two pieces -/
def Begun (w : World) (tot : Nat) (ls pre : List (List UInt8)) (W : World) : Prop :=
  ∃ m a : Nat, m ≤ 65537 ∧ Three w m 0 a W ∧ ∀ post, ls = pre ++ post → a + begAt m post.flatten = tot

/-- what is known within a piece -/
def BegunIn (w : World) (tot : Nat) (post : List (List UInt8)) (W : World) (k : Nat) (v : Value) (wr : World) : Prop :=
  ∃ (r : List UInt8) (m a : Nat), v = .string ⟨r.toArray⟩ ∧ k = m ∧ m ≤ 65537 ∧ Three w m 0 a wr ∧ a + begAt m (r ++ post.flatten) = tot ∧ r.length ≤ 65536 ∧ Only (· = 3) W wr

theorem flat_le : ∀ l : List (List UInt8), (∀ t ∈ l, t ≠ []) → l.length ≤ l.flatten.length := by
  intro l
  induction l with
  | nil => simp
  | cons t r ih =>
    intro h
    have h1 := ih (fun t ht => h t (by simp [ht]))
    have h2 : 0 < t.length := List.length_pos_iff.2 (h t (by simp))
    simp only [List.flatten_cons, List.length_append, List.length_cons]; omega

set_option maxRecDepth 100000 in
set_option maxHeartbeats 1000000 in
theorem begin_calls {R : Nat → Prop} {p : Option Addr} {s : List UInt8} {n : Nat} {w : World} (h : IsRope R w p s) (hs : s.length ≤ 65536) (hn : n ≤ 65537) :
    Calls Try.prog 114 #[.pointer p, .int .i64 n] w fun e w' => e = .returned (.int .i64 (begAt n s)) ∧ Below w.heap.size w w' := by
  obtain ⟨ls, hl, rfl⟩ := h
  have hlen : ls.length ≤ 65536 := Nat.le_trans (flat_le ls hl.ne) hs
  obtain ⟨tot, htot⟩ : ∃ tot, tot = begAt n ls.flatten := ⟨_, rfl⟩
  have htl : tot ≤ 65536 := by rw [htot]; exact Nat.le_trans (begAt_le _ _) hs
  rw [← htot]
  refine (callsIn_wide (n := 5)).1 ?_
  refine callsIn_of_wp_marks Try.func114 rfl trivial ?_ rfl
  simp only [Try.ntmps114, List.size_toArray, List.length_cons, List.length_nil, Nat.reduceAdd, Nat.reduceSub, Array.replicate_succ, Array.replicate_zero, List.push_toArray, List.append_toArray, List.nil_append, List.cons_append]
  gi_wp2_with (refine ⟨trivial, ?_⟩; gi_at_call 104; refine (callsIn_wide.2 (parts_calls _ _)).mono ?_; rintro e w' ⟨rfl, rfl⟩)
  obtain ⟨W0, hW0⟩ : ∃ W0, W0 = ((((w.alloc (Obj.cells #[Value.int IntKind.i64 ↑n] 3)).alloc (Obj.cells #[Value.int IntKind.i64 0] 3)).alloc (Obj.cells #[Value.int IntKind.i64 0] 3)).alloc (Obj.cells #[Value.pointer p] 37)) := ⟨_, rfl⟩
  rw [← hW0]
  have hs0 : W0.heap.size = w.heap.size + 4 := by rw [hW0]; simp
  have hB0 : Below w.heap.size w W0 := by
    rw [hW0]
    exact (((Below.refl _ w).alloc (Nat.le_refl _) _).alloc (by simp) _).alloc (by simp; omega) _ |>.alloc (by simp; omega) _
  have hT0 : Three w n 0 0 W0 := by
    refine ⟨?_, ?_, ?_, hB0⟩
    · rw [hW0, Below.heap_alloc _ _ _ (by simp; omega), Below.heap_alloc _ _ _ (by simp; omega), Below.heap_alloc _ _ _ (by simp)]; exact heap_new _ _
    · rw [hW0, Below.heap_alloc _ _ _ (by simp), Below.heap_alloc _ _ _ (by simp)]
      have := heap_new (w.alloc (Obj.cells #[Value.int IntKind.i64 ↑n] 3)) (Obj.cells #[Value.int IntKind.i64 0] 3)
      rwa [World.size_alloc] at this
    · rw [hW0, Below.heap_alloc _ _ _ (by simp)]
      have := heap_new ((w.alloc (Obj.cells #[Value.int IntKind.i64 ↑n] 3)).alloc (Obj.cells #[Value.int IntKind.i64 0] 3)) (Obj.cells #[Value.int IntKind.i64 0] 3)
      rwa [World.size_alloc, World.size_alloc] at this
  have hb2 : W0.heap[w.heap.size + 1 + 1 + 1]? = some (.cells #[.pointer p] 37) := by
    have := heap_new (((w.alloc (Obj.cells #[Value.int IntKind.i64 ↑n] 3)).alloc (Obj.cells #[Value.int IntKind.i64 0] 3)).alloc (Obj.cells #[Value.int IntKind.i64 0] 3)) (Obj.cells #[Value.pointer p] 37)
    rw [World.size_alloc, World.size_alloc, World.size_alloc] at this
    rwa [hW0]
  have hl2 : RopeL R W0 p ls := hl.keep fun k c f _ hk => hB0.block k (lt_of_heap hk)
  clear hW0
  refine wpIn_rangeFunc_R rfl (by decide) (gf := 135) (lb := #[.pointer (some ⟨w.heap.size + 1 + 1 + 1, 0, none⟩)]) rfl trivial (enters_of Try.func135 (by kernel_rfl) rfl)
    (parts1_seq 4 (by omega) R p ls (w.heap.size + 1 + 1 + 1) W0 hl2 hb2 hlen) (fun h k => h.trans k) (fun W o _ => (KeepT.refl _ W).alloc o) (fun W l o o' hl ho => (KeepT.refl _ W).putObj o' hl ho)
    (fun A C k o h hk ho => h.1.keep k o hk (fun c t f e => by subst e; cases ho)) (fun _ => rfl)
    (Begun w tot ls) (fun c _ W => c = .ret ∧ ∃ m a : Int, Three w m tot a W)
    ⟨fun s A C ⟨m, a, h1, h2, h3⟩ hi => ⟨m, a, h1, h2.tame w W0 _ _ _ (by omega) hi.2, h3⟩,
      fun s W o ho hB ⟨m, a, h1, h2, h3⟩ => ⟨m, a, h1, h2.tame w W0 _ _ _ (by omega) ((Below.refl _ W).alloc hB o), h3⟩,
      fun s W l o o' ⟨m, a, h1, h2, h3⟩ hB hl ho => ⟨m, a, h1, h2.tame w W0 _ _ _ (by omega) ((Below.refl _ W).grown (grownBy_putObj' W l o') (by have := h2.below.size; have := lt_of_heap hl; omega) (fun k e => by cases e; omega)), h3⟩⟩
    (fun c => ⟨fun s A C ⟨hc, m, a, h2⟩ hi => ⟨hc, m, a, h2.tame w W0 _ _ _ (by omega) hi.2⟩,
      fun s W o ho hB ⟨hc, m, a, h2⟩ => ⟨hc, m, a, h2.tame w W0 _ _ _ (by omega) ((Below.refl _ W).alloc hB o)⟩,
      fun s W l o o' ⟨hc, m, a, h2⟩ hB hl ho => ⟨hc, m, a, h2.tame w W0 _ _ _ (by omega) ((Below.refl _ W).grown (grownBy_putObj' W l o') (by have := lt_of_heap hl; omega) (fun k e => by cases e; omega))⟩⟩)
    ⟨n, 0, hn, hT0, fun post hp => by rw [htot, hp]; simp⟩
    (fun x => { tmps := #[.pointer p, .int .i64 n, undef, .pointer (some ⟨w.heap.size, 0, none⟩), .pointer (some ⟨w.heap.size + 1, 0, none⟩), .pointer (some ⟨w.heap.size + 1 + 1, 0, none⟩), .string ⟨x.toArray⟩, undef, .pointer p, .func (.func 135) #[] #[.pointer (some ⟨w.heap.size + 1 + 1 + 1, 0, none⟩)], .string ⟨x.toArray⟩,
      undef, undef, undef, undef, undef, undef, undef, undef, undef, undef, undef, undef, undef, undef, undef, undef, undef, undef, undef, undef, undef, undef, undef, undef], defers := [] }) ?assign ?body ?done ?stop
  case assign =>
    intro l x W K hK
    gi_wp2
    exact hK
  case body =>
    rintro l pre x post W hX ⟨m0, a0, hm0, hT, hpost⟩
    have hxl : x.length ≤ 65536 := by
      have : ls.flatten.length = pre.flatten.length + (x.length + post.flatten.length) := by rw [hX]; simp only [List.flatten_append, List.flatten_cons, List.length_append]
      omega
    have hq0 : a0 + begAt m0 (x ++ post.flatten) = tot := by have := hpost (x :: post) hX; simpa using this
    have hnext : ∀ (q : List (List UInt8)), ls = (pre ++ [x]) ++ q → q = post := fun q hq => by
      rw [hX, List.append_assoc] at hq
      simpa using (List.append_cancel_left hq).symm
    have Hnext := Lib.hid hnext
    clear hX hpost hl2 hb2 hlen hs hs0 hB0 hT0 htot hl hnext
    gi_wp2
    gi_loopw [6] (fun v wr => ∃ k, BegunIn w tot post W k v wr) (fun v wr => leastOf fun k => BegunIn w tot post W k v wr)
    case atStart => exact ⟨m0, x, m0, a0, rfl, rfl, hm0, hT, hq0, hxl, Only.refl _ _⟩
    case round =>
      have hk := (leastOf_spec hrel).1
      have hμ := (leastOf_spec hrel).2
      generalize hk0 : leastOf (fun k => BegunIn w tot post W k u6 wr) = k0 at hk
      have Hk0 := Lib.hid hk0
      clear hk0 hrel hμ
      obtain ⟨r, m, a, rfl, hkm, hm, hT3, heq, hrl, hO⟩ := hk
      rw [hkm] at Hk0
      clear hkm
      have f1 := box_facts hT3.n
      have f2 := box_facts hT3.r
      have f3 := box_facts hT3.at'
      have Heq := Lib.hid heq
      have hal : a ≤ 65536 := by omega
      clear heq
      by_cases hm0 : m = 0
      · subst hm0
        gi_wp2
        have hO2 := hO.setCell (a := ⟨w.heap.size + 1, 0, none⟩) hT3.r rfl (.int .i64 a)
        refine ⟨hO2.others, hO2.keepT (by rintro t (rfl | rfl) <;> decide), rfl, 0, a, ?_⟩
        have he : a = tot := by have := Heq.out; simp only [begAt, Nat.add_zero] at this; exact this
        rw [← he]
        exact hT3.setR a
      · obtain ⟨i, hi⟩ : ∃ i, i = Lib.indexByte r 10 := ⟨_, rfl⟩
        have d1 : decide (0 < (m : Int)) = true := by simp only [decide_eq_true_eq]; omega
        have d2 : ((m : Int) == 0) = false := by rw [beq_eq_false_iff_ne]; omega
        by_cases hneg : i < 0
        · have d3 : decide (i < 0) = true := by simp only [decide_eq_true_eq]; omega
          have Hi := Lib.hid hi
          clear hi
          gi_wp2_with (refine ⟨trivial, ?_⟩; gi_at_call 139; refine (CallsIn.inRound l (callsIn_wide.2 (IndexByte_calls r _))).mono ?_; rintro e w' ⟨rfl, rfl⟩; rw [← Hi.out])
          have hO2 := hO.setCell (a := ⟨w.heap.size + 2, 0, none⟩) hT3.at' rfl (.int .i64 (a + r.length))
          refine ⟨hO2.others, hO2.keepT (by rintro t (rfl | rfl) <;> decide), m, a + r.length, hm, ?_, ?_⟩
          · rw [Int.natCast_add]
            exact hT3.setAt _
          · intro q hq
            have he := Heq.out
            obtain ⟨m', rfl⟩ : ∃ m', m = m' + 1 := ⟨m - 1, by omega⟩
            rw [begAt_none (by rw [← Hi.out]; exact hneg)] at he
            rw [Hnext.out q hq]
            omega
        · have d3 : decide (i < 0) = false := by simp only [decide_eq_false_iff_not]; omega
          have hir : i.toNat < r.length := by rw [hi] at hneg ⊢; exact indexByte_lt hneg
          have Hi := Lib.hid hi
          clear hi
          gi_wp2_with (refine ⟨trivial, ?_⟩; gi_at_call 139; refine (CallsIn.inRound l (callsIn_wide.2 (IndexByte_calls r _))).mono ?_; rintro e w' ⟨rfl, rfl⟩; rw [← Hi.out])
          have hb1 : 0 ≤ i := by omega
          have hsz : (⟨r.toArray⟩ : ByteArray).size = r.length := rfl
          have hb2 : (i + 1).toNat ≤ r.length := by omega
          have hb3 : ¬ (i + 1 < 0) := by omega
          have hb4 : i + 1 ≤ r.length := by omega
          have hb7 : 0 ≤ i + 1 ∧ i + 1 ≤ (r.length : Int) := ⟨by omega, by omega⟩
          have hb5 : ¬ ((r.length : Int) < i + 1) := by omega
          have hb6 : 0 ≤ i + 1 := by omega
          have hw1 : IntKind.i64.wrap (i + 1) = i + 1 := by rw [IntKind.wrap_i64] <;> omega
          have hw2 : IntKind.i64.wrap ((a : Int) + i) = a + i := by rw [IntKind.wrap_i64] <;> omega
          have hw3 : IntKind.i64.wrap ((a : Int) + i + 1) = a + i + 1 := by rw [IntKind.wrap_i64] <;> omega
          have hw4 : IntKind.i64.wrap ((m : Int) - 1) = m - 1 := by rw [IntKind.wrap_i64] <;> omega
          clear hb4 hb5 hT hq0 hxl
          refine lOpenIn [(0, (fun W => W.heap = (wr).heap)), (8, (fun W => W.cell? ⟨w.heap.size, 0, none⟩ = some (.int .i64 m)))] [(10, [0]), (12, [0, 8])] [0, 8] (by kernel_rfl) (by kernel_rfl) (by rintro ⟨_, _, h⟩; exact h) ?_
          refine lP (i := 1) (v := ?_) rfl (by kernel_rfl) (fun _ _ _ h => h) rfl ?_ ?_
          rotate_left
          · intro W; go_simp; try with_reducible rfl
          try simp only [put_lit, put_none, List.set_cons_succ, List.set_cons_zero]
          refine lP (i := 4) (v := ?_) rfl (by kernel_rfl) (fun _ _ _ h => h) rfl ?_ ?_
          rotate_left
          · intro W; go_simp; try with_reducible rfl
          try simp only [put_lit, put_none, List.set_cons_succ, List.set_cons_zero]
          refine lP (i := 5) (v := ?_) rfl (by kernel_rfl) (fun _ _ _ h => h) rfl ?_ ?_
          rotate_left
          · intro W; go_simp; try with_reducible rfl
          try simp only [put_lit, put_none, List.set_cons_succ, List.set_cons_zero]
          refine lP (i := 6) (v := ?_) rfl (by kernel_rfl) (fun _ _ _ h => h) rfl ?_ ?_
          rotate_left
          · intro W; go_simp; try with_reducible rfl
          try simp only [put_lit, put_none, List.set_cons_succ, List.set_cons_zero]
          refine lP (i := 7) (v := ?_) rfl (by kernel_rfl) (fun _ _ _ h => h) rfl ?_ ?_
          rotate_left
          · intro W; go_simp; try with_reducible rfl
          try simp only [put_lit, put_none, List.set_cons_succ, List.set_cons_zero]
          refine lR (i := 0) (v := ?_) rfl (by kernel_rfl) (fun _ _ _ h => h) rfl ?_ ?_
          rotate_left
          · intro W hS; have hc := cell_of_same (show W.heap = (wr).heap from hS); clear hS; go_simp; try with_reducible rfl
          try simp only [put_lit, put_none, List.set_cons_succ, List.set_cons_zero]
          refine lP (i := 2) (v := ?_) rfl (by kernel_rfl) (fun _ _ _ h => h) rfl ?_ ?_
          rotate_left
          · intro W; go_simp; try with_reducible rfl
          try simp only [put_lit, put_none, List.set_cons_succ, List.set_cons_zero]
          refine lP (i := 3) (v := ?_) rfl (by kernel_rfl) (fun _ _ _ h => h) rfl ?_ ?_
          rotate_left
          · intro W; go_simp; try with_reducible rfl
          try simp only [put_lit, put_none, List.set_cons_succ, List.set_cons_zero]
          refine lR (i := 8) (v := ?_) rfl (by kernel_rfl) (fun _ _ _ h => h) rfl ?_ ?_
          rotate_left
          · intro W hS; have hc : (fun W => W.cell? ⟨w.heap.size, 0, none⟩ = some (.int .i64 m)) W := hS; clear hS; dsimp only at hc; go_simp; try with_reducible rfl
          try simp only [put_lit, put_none, List.set_cons_succ, List.set_cons_zero]
          refine lP (i := 9) (v := ?_) rfl (by kernel_rfl) (fun _ _ _ h => h) rfl ?_ ?_
          rotate_left
          · intro W; go_simp; try with_reducible rfl
          try simp only [put_lit, put_none, List.set_cons_succ, List.set_cons_zero]
          refine lE (i := 10) (live' := [8]) rfl (by kernel_rfl) (by kernel_rfl) ⟨rfl, f1.1, trivial⟩ (fun K hK => ?_)
          go_simp
          refine hK _ _ ?_
          clear hK K
          try simp only [put_lit, put_none, List.set_cons_succ, List.set_cons_zero]
          refine lP (i := 11) (v := ?_) rfl (by kernel_rfl) (fun _ _ _ h => h) rfl ?_ ?_
          rotate_left
          · intro W; go_simp; try with_reducible rfl
          try simp only [put_lit, put_none, List.set_cons_succ, List.set_cons_zero]
          refine lE (i := 12) (live' := []) rfl (by kernel_rfl) (by kernel_rfl) ⟨(box_facts (hT3.setAt _).n).1, trivial⟩ (fun K hK => ?_)
          go_simp
          refine hK _ _ ?_
          clear hK K
          try simp only [put_lit, put_none, List.set_cons_succ, List.set_cons_zero]
          refine lDone (by kernel_rfl) (by exact trivial) ?_ _
          have hT4 : Three w ((m - 1 : Nat) : Int) 0 ((a + i.toNat + 1 : Nat) : Int) (((wr.setCell ⟨w.heap.size + 1 + 1, 0, none⟩ (.int .i64 (a + i + 1))).setCell ⟨w.heap.size, 0, none⟩ (.int .i64 (m - 1))).drew) := by
            have h := (hT3.setAt (a + i + 1)).setN (m - 1)
            rw [show ((m - 1 : Nat) : Int) = (m : Int) - 1 by omega, show ((a + i.toNat + 1 : Nat) : Int) = (a : Int) + i + 1 by omega]
            exact ⟨h.n, h.r, h.at', h.below.drew⟩
          have hO4 : Only (· = 3) W (((wr.setCell ⟨w.heap.size + 1 + 1, 0, none⟩ (.int .i64 (a + i + 1))).setCell ⟨w.heap.size, 0, none⟩ (.int .i64 (m - 1))).drew) :=
            ((hO.setCell (a := ⟨w.heap.size + 1 + 1, 0, none⟩) hT3.at' rfl _).setCell (a := ⟨w.heap.size, 0, none⟩) (hT3.setAt (a + i + 1)).n rfl _).drew
          have hB : BegunIn w tot post W (m - 1) (.string ((⟨r.toArray⟩ : ByteArray).extract (i + 1).toNat r.length)) (((wr.setCell ⟨w.heap.size + 1 + 1, 0, none⟩ (.int .i64 (a + i + 1))).setCell ⟨w.heap.size, 0, none⟩ (.int .i64 (m - 1))).drew) := by
            refine ⟨r.drop (i.toNat + 1), m - 1, a + i.toNat + 1, ?_, rfl, by omega, hT4, ?_, by rw [List.length_drop]; omega, hO4⟩
            · rw [extract_str, show (i + 1).toNat = i.toNat + 1 by omega, List.take_length]
            · have he := Heq.out
              obtain ⟨m', rfl⟩ : ∃ m', m = m' + 1 := ⟨m - 1, by omega⟩
              rw [begAt_some (by rw [← Hi.out]; omega), ← Hi.out] at he
              simp only [Nat.add_sub_cancel]
              omega
          gi_wp2
          exact least_lt (p := fun k => BegunIn w tot post W k (.string ((⟨r.toArray⟩ : ByteArray).extract (i + 1).toNat r.length)) (((wr.setCell ⟨w.heap.size + 1 + 1, 0, none⟩ (.int .i64 (a + i + 1))).setCell ⟨w.heap.size, 0, none⟩ (.int .i64 (m - 1))).drew)) Hk0.out hB (by omega)
  case done =>
    rintro D W hD ⟨m, a, hm, hT, hpost⟩ hK
    have ha : (a : Int) = tot := by have := hpost [] (by simp); rw [List.flatten_nil, begAt_nil] at this; omega
    have hf := box_facts hT.at'
    have hr := box_facts hT.r
    clear hpost hl2 hb2 hlen hs hB0 hT0 htot hl
    rw [ha] at hT hf
    clear ha
    gi_wp2
    have hT2 := hT.setR tot
    have hK2 : (W.setCell ⟨w.heap.size + 1, 0, none⟩ (.int .i64 tot)).heap[D]? = some (.deferred (some [])) := (Below.heap_setCell _ _ _ _ (by show D ≠ w.heap.size + 1; omega)).trans hK
    refine ⟨by simp, .inl ⟨_, _, rfl, run_takeDeferred hK2, ?_⟩⟩
    have hT3 : Three w m tot tot ((W.setCell ⟨w.heap.size + 1, 0, none⟩ (.int .i64 tot)).putObj D (.deferred none)) :=
      hT2.tame w W0 _ _ _ (by omega) ((Below.refl _ _).grown (grownBy_putObj' _ _ _) (by have := hT2.below.size; have := lt_of_heap hK2; omega) (fun k e => by cases e; omega))
    exact ⟨_, results_cell_int rfl rfl (box_facts hT3.r).1, rfl, hT3.below⟩
  case stop =>
    rintro D c pre W hD _ ⟨rfl, m, a, hT⟩ hK
    have hr := box_facts hT.r
    clear hl2 hb2 hlen hs hB0 hT0 htot hl
    gi_wp2
    refine ⟨by simp, .inl ⟨_, _, rfl, run_takeDeferred hK, ?_⟩⟩
    have hT3 : Three w m tot a (W.putObj D (.deferred none)) :=
      hT.tame w W0 _ _ _ (by omega) ((Below.refl _ _).grown (grownBy_putObj' _ _ _) (by have := hT.below.size; have := lt_of_heap hK; omega) (fun k e => by cases e; omega))
    exact ⟨_, results_cell_int rfl rfl (box_facts hT3.r).1, rfl, hT3.below⟩
end Go.Proofs.Ytenihlicjahjhaa
