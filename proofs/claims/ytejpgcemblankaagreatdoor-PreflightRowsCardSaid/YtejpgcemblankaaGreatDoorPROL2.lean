/- The abstract machine, printed functions of the program, and what they are shown to be. -/
import Derived.Test.YtejpgcemblankaaGreatDoorPROL1
import Derived.Test.YtejpgcemblankaaGreatDoorPROM4
set_option linter.unusedSimpArgs false
set_option linter.unusedVariables false
set_option linter.unusedSectionVars false
set_option maxRecDepth 100000
namespace Go.Am.X
def PRowsR (vs : List V) (H : Heap) (o : Out) : Prop := (∃ (n : Int) (b : Bool), vs = [.int .i64 n, .bool b]) ∧ o = .val (.bool true)
noncomputable abbrev rw_PRows : List Row := [Row.fn f_law19_PreflightRows fn_law19_PreflightRows e_law19_PreflightRows, Row.fn f_preflight_New fn_preflight_New e_preflight_New, Row.fn f_preflight_Table_Put fn_preflight_Table_Put e_preflight_Table_Put, Row.fn f_preflight_Table_put fn_preflight_Table_put e_preflight_Table_put, Row.fn f_preflight_Table_put_1 fn_preflight_Table_put_1 e_preflight_Table_put_1, Row.fn f_slices_DeleteFunc_preflight_row fn_slices_DeleteFunc_preflight_row e_slices_DeleteFunc_preflight_row, Row.fn f_slices_IndexFunc_preflight_row fn_slices_IndexFunc_preflight_row e_slices_IndexFunc_preflight_row, Row.fn f_slices_Delete_preflight_row fn_slices_Delete_preflight_row e_slices_Delete_preflight_row, Row.fn f_slices_ContainsFunc_preflight_row fn_slices_ContainsFunc_preflight_row e_slices_ContainsFunc_preflight_row, Row.fn f_preflight_Table_holds fn_preflight_Table_holds e_preflight_Table_holds, Row.fn f_preflight_Table_holds_1 fn_preflight_Table_holds_1 e_preflight_Table_holds_1, Row.fn f_preflight_Table_Allows fn_preflight_Table_Allows e_preflight_Table_Allows, Row.fn f_preflight_Table_Allows_1 fn_preflight_Table_Allows_1 e_preflight_Table_Allows_1, Row.fn f_cors_Simple fn_cors_Simple e_cors_Simple, Row.fn f_age_Add fn_age_Add e_age_Add, Row.fn f_preflight_Table_Len fn_preflight_Table_Len e_preflight_Table_Len, Row.fn f_preflight_Table_Drop fn_preflight_Table_Drop e_preflight_Table_Drop, Row.fn f_preflight_Table_Drop_1 fn_preflight_Table_Drop_1 e_preflight_Table_Drop_1, Row.fn f_book_Within fn_book_Within e_book_Within, Row.prim f_law19_known closedP]
theorem rows_PRows : RowsOk PG rw_PRows :=
 .fn ok_law19_PreflightRows e_law19_PreflightRows_ok (.fn ok_preflight_New e_preflight_New_ok (.fn ok_preflight_Table_Put e_preflight_Table_Put_ok (.fn ok_preflight_Table_put e_preflight_Table_put_ok (.fn ok_preflight_Table_put_1 e_preflight_Table_put_1_ok (.fn ok_slices_DeleteFunc_preflight_row e_slices_DeleteFunc_preflight_row_ok (.fn ok_slices_IndexFunc_preflight_row e_slices_IndexFunc_preflight_row_ok (.fn ok_slices_Delete_preflight_row e_slices_Delete_preflight_row_ok (.fn ok_slices_ContainsFunc_preflight_row e_slices_ContainsFunc_preflight_row_ok (.fn ok_preflight_Table_holds e_preflight_Table_holds_ok (.fn ok_preflight_Table_holds_1 e_preflight_Table_holds_1_ok (.fn ok_preflight_Table_Allows e_preflight_Table_Allows_ok (.fn ok_preflight_Table_Allows_1 e_preflight_Table_Allows_1_ok (.fn ok_cors_Simple e_cors_Simple_ok (.fn ok_age_Add e_age_Add_ok (.fn ok_preflight_Table_Len e_preflight_Table_Len_ok (.fn ok_preflight_Table_Drop e_preflight_Table_Drop_ok (.fn ok_preflight_Table_Drop_1 e_preflight_Table_Drop_1_ok (.fn ok_book_Within e_book_Within_ok (.prim closed_law19_known_ok (.nil _))))))))))))))))))))
section
variable {N : Nat} (hN : 9223372036854775808 < N)
include hN
theorem pr_idx (d : Nat) : Idx_preflight_row (CR rw_PRows N (d + 1)) (CR rw_PRows N d) := fun f fv _ _ hw hs hl v hr hf hP τ => s_slices_IndexFunc_preflight_row_ret (CR rw_PRows N d) (N := N) (by omega) f fv hw hs hl v hr hf hP τ
theorem pr_con (d : Nat) : Con_row (CR rw_PRows N (d + 2)) (CR rw_PRows N d) := fun f fv _ _ hw hs hl v hr hf hP τ => s_slices_ContainsFunc_preflight_row_ret (CR rw_PRows N (d + 1)) (CR rw_PRows N d) N (pr_idx hN d) f fv hw hs hl v hr hf hP τ
theorem pr_del (d : Nat) : Del_row (CR rw_PRows N (d + 2)) (CR rw_PRows N d) (CR rw_PRows N (d + 1)) := fun f fv _ _ hw hs hl v hg hf' hf hP τ => s_slices_DeleteFunc_preflight_row_ret (CR rw_PRows N (d + 1)) (CR rw_PRows N d) (N := N) (by omega) (pr_idx hN d) f fv hw hs hl v hg hf' hf hP τ
theorem pr_del0 (d : Nat) : Del0_row (CR rw_PRows N (d + 1)) := fun hg hw hl hl' τ => s_slices_Delete_preflight_row_ret (CR rw_PRows N d) N hg hw hl hl' τ
theorem pr_put1 (d : Nat) : Put1Ok (CR rw_PRows N (d + 1)) := fun x k b H hw hb τ => s_put_1_ret (CR rw_PRows N d) N x k b H hw hb τ
theorem pr_add (d : Nat) : AddOkP (CR rw_PRows N (d + 1)) := fun h1 h2 h3 h4 H τ q => s_age_Add_pos (CR rw_PRows N d) N h1 h2 h3 h4 H τ q
theorem pr_put (d : Nat) : PutOkT (CR rw_PRows N (d + 4)) := fun ht hw hP hl k m n hm hn all _ _ h1 h2 h3 τ => s_preflight_Table_put_ret (CR rw_PRows N (d + 3)) (CR rw_PRows N (d + 1)) (CR rw_PRows N (d + 2)) N (pr_del hN (d + 1)) (pr_put1 hN d) (pr_put1 hN (d + 1)) (pr_add hN (d + 2)) (pr_del0 hN (d + 2)) ht hw hP hl k m n hm hn all h1 h2 h3 τ
theorem pr_Put (d : Nat) : PutOkE (CR rw_PRows N (d + 5)) := fun ht hw hP hl self url cred gr m n h1 h2 h3 h4 h5 h6 h7 _ h8 h9 τ => s_preflight_Table_Put_ret (CR rw_PRows N (d + 4)) (N := N) (by omega) (pr_put hN d) ht hw hP hl self url cred gr m n h1 h2 h3 h4 h5 h6 h7 h8 h9 τ
theorem pr_holds1 (d : Nat) : Holds1Ok (CR rw_PRows N (d + 1)) := fun x k now a b H hw ha hb τ => s_holds_1_ret (CR rw_PRows N d) N x k now a b H hw ha hb τ
theorem pr_holds (d : Nat) : HldT (CR rw_PRows N (d + 4)) := fun ht hw hl k now τ => s_preflight_Table_holds_ret (CR rw_PRows N (d + 3)) (CR rw_PRows N (d + 1)) N (pr_con hN (d + 1)) (pr_holds1 hN d) ht hw hl k now τ
theorem pr_al1 (d : Nat) : Al1Ok (CR rw_PRows N (d + 5)) := fun ht hw hl _ _ _ _ hc meth name τ => by
 obtain ⟨H', τ', g, k⟩ := s_Allows_1_ret (CR rw_PRows N (d + 4)) N (pr_holds hN d) ht hw hl hc meth name τ
 exact ⟨H', τ', g, fun q => k q⟩
theorem pr_al (d : Nat) : AlwOk (CR rw_PRows N (d + 6)) := fun ht hw hl self url cred m us hul v hr now τ => s_preflight_Table_Allows_ret (CR rw_PRows N (d + 5)) (N := N) (by omega) (pr_al1 hN d) (fun s H τ q => s_cors_Simple_tab (CR rw_PRows N (d + 4)) N s H τ q) ht hw hl self url cred m us hul v hr now τ
theorem pr_len (d : Nat) : LenOkT (CR rw_PRows N (d + 1)) := fun ht hw hl now τ => s_preflight_Table_Len_ret (CR rw_PRows N d) (N := N) (by omega) ht hw hl now τ
theorem pr_drop1 (d : Nat) : Drop1Ok (CR rw_PRows N (d + 1)) := fun x self url a b H hw ha hb τ => s_Drop_1_ret (CR rw_PRows N d) N x self url a b H hw ha hb τ
theorem pr_drop (d : Nat) : DrpOkT (CR rw_PRows N (d + 4)) := fun ht hw hP hl self url τ => s_preflight_Table_Drop_ret (CR rw_PRows N (d + 3)) (CR rw_PRows N (d + 1)) (CR rw_PRows N (d + 2)) N (pr_del hN (d + 1)) (pr_drop1 hN d) (pr_drop1 hN (d + 1)) ht hw hP hl self url τ
end
theorem closedP_callT {c : CallK} {f : Nat} (h : ∀ vs H τ q, c f vs H τ q = effK (closedP vs H τ) q) : ∀ H τ q, c f [] H τ q = q (.bool true) H τ := fun H τ q => by rw [h]; rfl
theorem preflightRows_ok : ∀ base w0, PrimOk PG base w0 f_law19_PreflightRows (outP PRowsR) := by
 obtain ⟨N, hN⟩ : ∃ N : Nat, 9223372036854775808 < N := ⟨9223372036854775809, by decide⟩
 refine primOk_out mixed_ok rows_PRows N 7 _ ?_
 rintro vs H o hw hvs ⟨⟨n, b, rfl⟩, rfl⟩ τ
 obtain ⟨H', τ', g, k⟩ := s_law19_PreflightRows_ret (CR rw_PRows N 6) (N := N) (by omega) (fun H hw τ => s_preflight_New_ret (CR rw_PRows N 5) N H hw τ) (pr_Put hN 1) (pr_al hN 0) (pr_len hN 5) (pr_drop hN 2) (fun n _ hh H τ => s_book_Within_gen (CR rw_PRows N 5) N n hh H τ) (closedP_callT fun _ _ _ _ => rfl) n b H hw τ
 exact ⟨_, H', τ', k retK, g, rfl, trivial⟩
theorem prows_fun : Fun1 PRowsR := fun vs H o o' k k' => k.2.trans k'.2.symm
theorem preflightRows_in {n : Int} {b : Bool} {H : Heap} (τ : Tape) : outP PRowsR [.int .i64 n, .bool b] H τ = some (.bool true, H, τ) :=
 outP_mk prows_fun ⟨⟨n, b, rfl⟩, rfl⟩ τ
end Go.Am.X

