/- The walks of the document's Without and Turned: lists of messages. -/
import Derived.Test.YtegpoghgddjmaaaNetTake2
namespace Go.Proofs.Ytegpoghgddjmaaa
open Go.RowKit
set_option maxRecDepth 100000

/-- The messages that lie at A. -/
def RowsM (w : World) (B : Nat) (A : Option Addr) (M : List Ms) : Prop :=
  0 < M.length → ∃ q, A = some ⟨q, 0, none⟩ ∧ q < B ∧ ∀ j u, (rowM M)[j]? = some u → w.cell? ⟨q, j, none⟩ = some u
theorem row_form3 {w : World} {b e z n : Nat} {v : Value} {xs : List Value} (h : w.ownsRow b e z v n xs) : ∃ A c, v = .slice A n c := by
  rcases h.2 with ⟨rfl, h0⟩ | ⟨g, cap, cur, rfl, _⟩
  · exact ⟨none, 0, by rw [h0]⟩
  · exact ⟨_, cap, rfl⟩
theorem rowsM_own {w : World} {b n c : Nat} {A : Option Addr} {M : List Ms} (h : w.ownsRow b 54 3 (.slice A n c) M.length (rowM M)) : RowsM w w.heap.size A M := fun hp => by
  obtain ⟨q, c', e, _, hq⟩ := World.ownsRow.form h hp
  injection e with e1 e2 e3
  subst e1 e2 e3
  refine ⟨q, rfl, hq, fun j u hu => ?_⟩
  have := World.ownsRow.cells h (g := q) rfl j u hu
  rwa [add_lit0] at this
/-- append of messages onto a row of messages of the call's own. -/
theorem wpList_append_msgs {w : World} {ops : Array Oper} {rest : List Oper} {o : Oper} {a : Act} {Q : Exit → Act → World → Prop} (hgd : o.guard = none) (s x : Operand)
    (ho : o.op = .call { callee := .builtin .append, args := #[s, x], argTypes := #[60, 60] })
    (base : Nat) (v : Value) (n : Nat) (M : List Ms) (hs : a.eval s = v) (hown : w.ownsRow base 54 3 v n (rowM M)) (ad : Addr) (m c : Nat) (N : List Ms) (hx : a.eval x = .slice (some ad) m c) (hm : N.length = m)
    (hnews : ∀ j u, (rowM N)[j]? = some u → w.cell? (ad.add j) = some u) (k : Nat) (hk : n + m = k) (hlen : k ≤ 1000000) (hbase : base ≤ w.heap.size)
    (h : ∀ A' c' w', w'.ownsRow base 54 3 (.slice A' k c') k (rowM (M ++ N)) → w.grownBy w' v.ownBlock → ((Value.slice A' k c').ownBlock = v.ownBlock ∨ (Value.slice A' k c').ownBlock = some w.heap.size) →
      wpList Try.prog ops Q rest (a.put o.dst (.slice A' k c')) w') : wpList Try.prog ops Q (o :: rest) a w := by
  subst hm hk
  obtain ⟨i, hi, hz, hsz, hby⟩ := info_parts msgInfo
  obtain ⟨v', w', hrun, h2, h3, _, h5⟩ := run_append_own_at (P := Try.prog) w base 60 o.type 54 i _ 3 40 Try.underlying60 hi hz hsz hby rfl (by decide) v n (rowM M) hown ad N.length c (rowM N) (rowM_length N) hnews (rowM_one N) (by unfold maxLen; omega) (by omega) hbase
  rw [← rowM_app] at h2
  obtain ⟨A', c', rfl⟩ := row_form3 h2
  refine wpList_plain hgd fun K hK => ?_
  unfold Oper.wp execOp
  simp only [ho, resolve, invoke, builtin, Sem.run_bind, Sem.run_pure, Result.andThen_ok, List.map_toArray, List.map_cons, List.map_nil, hs, hx, hrun]
  exact hK _ _ (h A' c' w' h2 h3 h5)
def MsPost (N : List Ms) (w : World) (e : Ending) (w' : World) : Prop :=
  ∃ A' c', e = .returned (.slice A' N.length c') ∧ w'.ownsRow w.heap.size 54 3 (.slice A' N.length c') N.length (rowM N) ∧ Below w.heap.size w w'
theorem take_cells {w : World} {q : Nat} {M : List Ms} (h : ∀ j u, (rowM M)[j]? = some u → w.cell? ⟨q, j, none⟩ = some u) (i : Nat) : ∀ j u, (rowM (M.take i))[j]? = some u → w.cell? ((⟨q, 0, none⟩ : Addr).add j) = some u := fun j u hu => by
  rw [add_lit0]
  have e : rowM M = rowM (M.take i) ++ rowM (M.drop i) := by rw [← rowM_app, List.take_append_drop]
  refine h j u ?_
  rw [e, List.getElem?_append_left (List.getElem?_eq_some_iff.1 hu).1]
  exact hu
theorem drop_cells {w : World} {q : Nat} {M : List Ms} (h : ∀ j u, (rowM M)[j]? = some u → w.cell? ⟨q, j, none⟩ = some u) (i : Nat) (hi : i ≤ M.length) : ∀ j u, (rowM (M.drop i))[j]? = some u → w.cell? ((⟨q, i * 3, none⟩ : Addr).add j) = some u := fun j u hu => by
  rw [add_lit]
  have e : rowM M = rowM (M.take i) ++ rowM (M.drop i) := by rw [← rowM_app, List.take_append_drop]
  have hl : (rowM (M.take i)).length = i * 3 := by rw [rowM_length, List.length_take, Nat.min_eq_left hi]
  refine h _ u ?_
  rw [e, List.getElem?_append_right (by omega), hl, Nat.add_sub_cancel_left]
  exact hu
set_option maxHeartbeats 4000000 in
theorem rwithout_any (A : Option Addr) (n c i : Nat) (M : List Ms) (w : World) (hA : RowsM w w.heap.size A M) (hn : M.length = n) (hi : i < n) (hc : n ≤ c) (hcm : c ≤ 9223372036854775807) (hl : n ≤ 1000) :
    Calls Try.prog 46 #[.slice A n c, .int .i64 i] w (MsPost (M.take i ++ M.drop (i + 1)) w) := by
  obtain ⟨q, rfl, hq, hcells⟩ := hA (by omega)
  have Hc := Lib.hid hcells
  have Hn := Lib.hid hn
  have hnil : w.ownsRow w.heap.size 54 3 (.slice none 0 0) 0 (rowM []) := World.ownsRow_nil _ _ _ _
  have hic : i ≤ c := by omega
  have hin : i + 1 ≤ n := by omega
  have h0i : (0 : Int) ≤ (i : Int) + 1 := by omega
  have hi64 : (i : Int) + 1 ≤ 9223372036854775807 := by omega
  clear hA hcells hn
  by_cases hci : c = i + 1
  · subst hci
    go_enter Try.func46, Try.ntmps46
    go_wp2_with (at_builtin; go_loud (first
      | (refine wpList_append_msgs rfl (.tmp 6) (.tmp 9) rfl w.heap.size (.slice none 0 0) 0 [] rfl hnil ⟨q, 0, none⟩ i _ (M.take i) rfl (by rw [List.length_take, Hn.out]; omega) (take_cells Hc.out i) i (by omega) (by omega) (Nat.le_refl _) ?_
         intro A1 c1 w1 h1 hg1 hat1
         rw [List.nil_append] at h1
         have hb1 : Below w.heap.size w w1 := (nr w).grown hg1 (Nat.le_refl _) (fun q e => by simp [Value.ownBlock] at e)
         have H1 := Lib.hid (And.intro h1 hb1)
         have Hc1 : Hid (∀ j u, (rowM M)[j]? = some u → w1.cell? ⟨q, j, none⟩ = some u) := fun j u hu => (hb1.cell (p := ⟨q, j, none⟩) hq).trans (Hc.out j u hu)
         clear h1 hg1 hat1 hb1)
      | (refine wpList_append_msgs rfl (.tmp 11) (.tmp 15) rfl w.heap.size (.slice A1 i c1) i (M.take i) rfl H1.out.1 ⟨q, 0, none⟩ 0 _ (M.drop (i + 1)) rfl (by rw [List.length_drop, Hn.out]; omega) (by rw [List.drop_eq_nil_of_le (by rw [Hn.out]; omega)]; intro j u hu; cases hu) (n - 1) (by omega) (by omega) H1.out.2.size ?_
         intro A2 c2 w2 h2 hg2 hat2
         have hb2 : Below w.heap.size w w2 := H1.out.2.grown hg2 H1.out.2.size (fun q e => (World.ownsRow.lt H1.out.1 q e).1)
         have H2 := Lib.hid (And.intro h2 hb2)
         clear h2 hg2 hat2 hb2)
      ))
    go_ret
    have hlen : (M.take i ++ M.drop (i + 1)).length = n - 1 := by rw [List.length_append, List.length_take, List.length_drop, Hn.out]; omega
    unfold MsPost
    rw [hlen]
    exact ⟨A2, c2, rfl, H2.out.1, H2.out.2⟩
  · have hjc : i + 1 ≤ c := by omega
    go_enter Try.func46, Try.ntmps46
    go_wp2_with (at_builtin; go_loud (first
      | (refine wpList_append_msgs rfl (.tmp 6) (.tmp 9) rfl w.heap.size (.slice none 0 0) 0 [] rfl hnil ⟨q, 0, none⟩ i _ (M.take i) rfl (by rw [List.length_take, Hn.out]; omega) (take_cells Hc.out i) i (by omega) (by omega) (Nat.le_refl _) ?_
         intro A1 c1 w1 h1 hg1 hat1
         rw [List.nil_append] at h1
         have hb1 : Below w.heap.size w w1 := (nr w).grown hg1 (Nat.le_refl _) (fun q e => by simp [Value.ownBlock] at e)
         have H1 := Lib.hid (And.intro h1 hb1)
         have Hc1 : Hid (∀ j u, (rowM M)[j]? = some u → w1.cell? ⟨q, j, none⟩ = some u) := fun j u hu => (hb1.cell (p := ⟨q, j, none⟩) hq).trans (Hc.out j u hu)
         clear h1 hg1 hat1 hb1)
      | (refine wpList_append_msgs rfl (.tmp 11) (.tmp 15) rfl w.heap.size (.slice A1 i c1) i (M.take i) rfl H1.out.1 ⟨q, (i + 1) * 3, none⟩ (n - (i + 1)) _ (M.drop (i + 1)) rfl (by rw [List.length_drop, Hn.out]) (drop_cells Hc1.out (i + 1) (by rw [Hn.out]; omega)) (n - 1) (by omega) (by omega) H1.out.2.size ?_
         intro A2 c2 w2 h2 hg2 hat2
         have hb2 : Below w.heap.size w w2 := H1.out.2.grown hg2 H1.out.2.size (fun q e => (World.ownsRow.lt H1.out.1 q e).1)
         have H2 := Lib.hid (And.intro h2 hb2)
         clear h2 hg2 hat2 hb2)
      ))
    go_ret
    have hlen : (M.take i ++ M.drop (i + 1)).length = n - 1 := by rw [List.length_append, List.length_take, List.length_drop, Hn.out]; omega
    unfold MsPost
    rw [hlen]
    exact ⟨A2, c2, rfl, H2.out.1, H2.out.2⟩
theorem turned_get {M : List Ms} {i k j : Nat} {x y : Ms} (hx : M[i]? = some x) (hy : M[k]? = some y) (hj : j < M.length) :
    ((M.set i y).set k x)[j]? = M[if j = i then k else if j = k then i else j]? := by
  have hi := (List.getElem?_eq_some_iff.1 hx).1
  have hk := (List.getElem?_eq_some_iff.1 hy).1
  rw [List.getElem?_set, List.getElem?_set]
  by_cases h1 : j = i
  · subst h1
    rw [if_pos rfl]
    by_cases h2 : k = j
    · subst h2; rw [if_pos rfl, if_pos (by rw [List.length_set]; exact hk)]; simp [hx]
    · rw [if_neg h2, if_pos rfl, if_pos hi, hy]
  · rw [if_neg h1]
    by_cases h2 : j = k
    · subst h2; rw [if_pos rfl, if_pos (by rw [List.length_set]; exact hk), if_pos rfl, hx]
    · rw [if_neg h2, if_neg (fun e => h2 e.symm), if_neg (fun e => h1 e.symm)]
set_option maxHeartbeats 8000000 in
theorem rturned_any (A : Option Addr) (n c i k : Nat) (M : List Ms) (x y : Ms) (w : World) (hA : RowsM w w.heap.size A M) (hn : M.length = n) (hx : M[i]? = some x) (hy : M[k]? = some y) (hl : n ≤ 1000) :
    Calls Try.prog 48 #[.slice A n c, .int .i64 i, .int .i64 k] w (MsPost ((M.set i y).set k x) w) := by
  have hi := (List.getElem?_eq_some_iff.1 hx).1
  have hk := (List.getElem?_eq_some_iff.1 hy).1
  obtain ⟨q, rfl, hq, hcells⟩ := hA (by omega)
  have Hc := Lib.hid hcells
  have Hn := Lib.hid hn
  have hlen : ((M.set i y).set k x).length = n := by rw [List.length_set, List.length_set, hn]
  have Hg : Hid (∀ j, j < n → ((M.set i y).set k x)[j]? = M[if j = i then k else if j = k then i else j]?) := fun j hj => turned_get hx hy (by omega)
  generalize (M.set i y).set k x = T at *
  have Hl := Lib.hid hlen
  rw [hn] at hi hk
  clear hA hcells hn hx hy hlen
  go_enter Try.func48, Try.ntmps48
  go_wp2_with fail
  go_loopw [7, 8] (fun o ix wr => ∃ j : Nat, j ≤ n ∧ ix = .int .i64 j ∧ Hid (wr.ownsRow w.heap.size 54 3 o j (rowM (T.take j)) ∧ Below w.heap.size w wr)) (fun _ ix _ => n - (intOf ix).toNat)
  case atStart => exact ⟨0, Nat.zero_le _, rfl, World.ownsRow_nil _ _ _ _, nr w⟩
  case round =>
    obtain ⟨j, hj, rfl, hR⟩ := hrel
    obtain ⟨A1, c1, rfl⟩ := row_form3 hR.out.1
    by_cases hend : j = n
    · subst hend
      go_wp2_with fail
      go_ret
      have hT : T.take j = T := List.take_of_length_le (by rw [Hl.out]; exact Nat.le_refl _)
      have h1 := hR.out.1
      rw [hT] at h1
      unfold MsPost
      rw [Hl.out]
      exact ⟨A1, c1, rfl, h1, hR.out.2⟩
    · have hlt : j < n := by omega
      obtain ⟨s, hs⟩ : ∃ s, (if j = i then k else if j = k then i else j) = s := ⟨_, rfl⟩
      have hsn : s < n := by rw [← hs]; split; exact hk; split; exact hi; exact hlt
      obtain ⟨m, hm⟩ : ∃ m, M[s]? = some m := ⟨_, List.getElem?_eq_getElem (by rw [Hn.out]; exact hsn)⟩
      have hTj : T[j]? = some m := by rw [Hg.out j hlt, hs]; exact hm
      have Ht : Hid (T.take (j + 1) = T.take j ++ [m]) := show _ = _ by rw [List.take_add_one, hTj]; rfl
      have k0 := hR.out.2.cell (p := ⟨q, s * 3, none⟩) hq |>.trans (Hc.out _ _ (rowM_get hm 0 (by decide)))
      have k1 := hR.out.2.cell (p := ⟨q, s * 3 + 1, none⟩) hq |>.trans (Hc.out _ _ (rowM_get hm 1 (by decide)))
      have k2 := hR.out.2.cell (p := ⟨q, s * 3 + 2, none⟩) hq |>.trans (Hc.out _ _ (rowM_get hm 2 (by decide)))
      have hnews := msg_news wr m.a m.h (.slice m.A m.n m.c)
      have Hs := Lib.hid hs
      clear hm hTj hs
      by_cases h1 : j = i
      · as_aux_lemma =>
          have hse : s = k := by rw [← Hs.out, if_pos h1]
          subst hse
          subst h1
          go_wp2_with (at_builtin; go_loud (refine wpList_append_msgs rfl (.tmp 25) (.tmp 30) rfl w.heap.size (.slice A1 j c1) j (T.take j) rfl (World.ownsRow.alloc hR.out.1 _) ⟨wr.heap.size, 0, none⟩ 1 1 [m] rfl rfl hnews (j + 1) rfl (by omega) (na hR.out.2 _).size ?_); intro A2 c2 w2 h2 hg2 hat2; have hb2 := (na hR.out.2 (.cells #[.bool m.a, .int .i64 m.h, .slice m.A m.n m.c] 54)).grown hg2 (na hR.out.2 _).size (fun q e => (World.ownsRow.lt hR.out.1 q e).1); have H2 := Lib.hid (And.intro h2 hb2); clear h2 hg2 hat2 hb2)
          exact ⟨⟨j + 1, by omega, by go_num, by rw [Ht.out]; exact H2.out⟩, by simp [intOf]; omega⟩
      · have hji : ((j : Int) == (i : Int)) = false := by rw [beq_eq_false_iff_ne]; omega
        by_cases h2 : j = k
        · as_aux_lemma =>
            have hse : s = i := by rw [← Hs.out, if_neg h1, if_pos h2]
            subst hse
            subst h2
            go_wp2_with (at_builtin; go_loud (refine wpList_append_msgs rfl (.tmp 25) (.tmp 30) rfl w.heap.size (.slice A1 j c1) j (T.take j) rfl (World.ownsRow.alloc hR.out.1 _) ⟨wr.heap.size, 0, none⟩ 1 1 [m] rfl rfl hnews (j + 1) rfl (by omega) (na hR.out.2 _).size ?_); intro A2 c2 w2 h2 hg2 hat2; have hb2 := (na hR.out.2 (.cells #[.bool m.a, .int .i64 m.h, .slice m.A m.n m.c] 54)).grown hg2 (na hR.out.2 _).size (fun q e => (World.ownsRow.lt hR.out.1 q e).1); have H2 := Lib.hid (And.intro h2 hb2); clear h2 hg2 hat2 hb2)
            exact ⟨⟨j + 1, by omega, by go_num, by rw [Ht.out]; exact H2.out⟩, by simp [intOf]; omega⟩
        · as_aux_lemma =>
            have hjk : ((j : Int) == (k : Int)) = false := by rw [beq_eq_false_iff_ne]; omega
            have hse : s = j := by rw [← Hs.out, if_neg h1, if_neg h2]
            subst hse
            go_wp2_with (at_builtin; go_loud (refine wpList_append_msgs rfl (.tmp 25) (.tmp 30) rfl w.heap.size (.slice A1 s c1) s (T.take s) rfl (World.ownsRow.alloc hR.out.1 _) ⟨wr.heap.size, 0, none⟩ 1 1 [m] rfl rfl hnews (s + 1) rfl (by omega) (na hR.out.2 _).size ?_); intro A2 c2 w2 h2 hg2 hat2; have hb2 := (na hR.out.2 (.cells #[.bool m.a, .int .i64 m.h, .slice m.A m.n m.c] 54)).grown hg2 (na hR.out.2 _).size (fun q e => (World.ownsRow.lt hR.out.1 q e).1); have H2 := Lib.hid (And.intro h2 hb2); clear h2 hg2 hat2 hb2)
            exact ⟨⟨s + 1, by omega, by go_num, by rw [Ht.out]; exact H2.out⟩, by simp [intOf]; omega⟩
end Go.Proofs.Ytegpoghgddjmaaa
