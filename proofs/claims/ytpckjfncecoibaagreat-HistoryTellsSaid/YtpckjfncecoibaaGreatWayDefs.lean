/- Names of functions, records of struct types, kinds of programs (printed by wip/way2.py). -/
import Derived.Test.YtpckjfncecoibaaGreatFunDeep
import Derived.Test.YtpckjfncecoibaaGreatProg
namespace Go.Proofs.YtpckjfncecoibaaGreat.Fun
open Go
set_option linter.unusedVariables false
abbrev n_task_Do : FuncId := 27
abbrev n_check_Read : FuncId := 31
abbrev n_check_New : FuncId := 32
abbrev n_decode_Formed : FuncId := 82
abbrev n_check_Drop : FuncId := 83
abbrev n_check_Write : FuncId := 84
abbrev n_check_Swap : FuncId := 85
abbrev n_domain_Make : FuncId := 86
abbrev n_domain_Use : FuncId := 87
abbrev n_field_Field_Get : FuncId := 94
abbrev n_plan_Plan_Head : FuncId := 96
abbrev n_plan_Plan_Next : FuncId := 97
abbrev n_check_look : FuncId := 98
abbrev n_check_Read_c1 : FuncId := 99
abbrev n_check_Seat_Formed : FuncId := 101
abbrev n_prog_Then_alloc_Grant_api_Res : FuncId := 103
abbrev n_alloc_New : FuncId := 104
abbrev n_check_New_c1 : FuncId := 105
abbrev n_handle_Handle_Word : FuncId := 107
abbrev n_plan_Plan_Formed : FuncId := 110
abbrev n_handle_Mine : FuncId := 145
abbrev n_plan_Plan_State : FuncId := 146
abbrev n_check_Drop_c1 : FuncId := 148
abbrev n_state_State_Word : FuncId := 149
abbrev n_check_Drop_c1_c1 : FuncId := 152
abbrev n_prog_Then_int_api_Res : FuncId := 153
abbrev n_alloc_Stash : FuncId := 154
abbrev n_check_Drop_c1_c1_c1 : FuncId := 155
abbrev n_check_Write_c1 : FuncId := 156
abbrev n_check_Write_c1_c1 : FuncId := 158
abbrev n_check_Swap_c1 : FuncId := 159
abbrev n_check_Swap_c1_c1 : FuncId := 160
abbrev n_domain_claim : FuncId := 162
abbrev n_domain_asked : FuncId := 163
abbrev n_plan_Plan_Kind : FuncId := 164
abbrev n_domain_Use_c1 : FuncId := 165
abbrev n_plan_Plan_Cell : FuncId := 169
abbrev n_plan_Plan_Hazard : FuncId := 170
abbrev n_plan_Plan_Count : FuncId := 171
abbrev n_state_Of : FuncId := 177
abbrev n_state_State_Freed : FuncId := 178
abbrev n_check_look_c1 : FuncId := 184
abbrev n_prog_Then_prog_None_api_Res : FuncId := 185
abbrev n_hazard_Set : FuncId := 186
abbrev n_check_look_c1_c1 : FuncId := 187
abbrev n_check_look_c2 : FuncId := 188
abbrev n_check_look_c2_c1 : FuncId := 189
abbrev n_check_look_c2_c1_c1 : FuncId := 190
abbrev n_plan_Plan_Field : FuncId := 191
abbrev n_check_look_c2_c1_c1_c1 : FuncId := 192
abbrev n_prog_Then_alloc_Grant_api_Res_c1 : FuncId := 194
abbrev n_alloc_New_c1 : FuncId := 195
abbrev n_alloc_grant : FuncId := 197
abbrev n_prog_Then_int_alloc_Grant : FuncId := 198
abbrev n_free_Pop : FuncId := 199
abbrev n_alloc_New_c2 : FuncId := 200
abbrev n_retire_Scan : FuncId := 201
abbrev n_alloc_New_c2_c1 : FuncId := 202
abbrev n_prog_Swap_api_Res_c1 : FuncId := 230
abbrev n_prog_Then_int_api_Res_c1 : FuncId := 231
abbrev n_alloc_Stash_c1 : FuncId := 232
abbrev n_prog_Then_int_int : FuncId := 233
abbrev n_retire_Put : FuncId := 234
abbrev n_alloc_Stash_c2 : FuncId := 235
abbrev n_alloc_Stash_c2_c1 : FuncId := 236
abbrev n_prog_Store_api_Res_c1 : FuncId := 237
abbrev n_domain_claim_c1 : FuncId := 238
abbrev n_domain_claim_c1_c1 : FuncId := 239
abbrev n_domain_named : FuncId := 240
abbrev n_prog_Then_api_Res_api_Res : FuncId := 241
abbrev n_queue_Make : FuncId := 242
abbrev n_domain_claim_c1_c1_c1 : FuncId := 243
abbrev n_domain_claim_c1_c1_c1_c1 : FuncId := 244
abbrev n_domain_asked_c1 : FuncId := 245
abbrev n_queue_Enq : FuncId := 246
abbrev n_domain_asked_c2 : FuncId := 247
abbrev n_queue_Deq : FuncId := 248
abbrev n_domain_asked_c3 : FuncId := 249
abbrev n_dict_Add : FuncId := 250
abbrev n_domain_asked_c4 : FuncId := 251
abbrev n_dict_Get : FuncId := 252
abbrev n_domain_asked_c5 : FuncId := 253
abbrev n_dict_Del : FuncId := 254
abbrev n_prog_Store_int_c1 : FuncId := 258
abbrev n_prog_Then_prog_None_api_Res_c1 : FuncId := 265
abbrev n_alloc_grant_c1 : FuncId := 268
abbrev n_alloc_grant_c1_c1 : FuncId := 271
abbrev n_prog_Then_int_alloc_Grant_c1 : FuncId := 273
abbrev n_free_Pop_c1 : FuncId := 274
abbrev n_free_Pop_c1_c1 : FuncId := 275
abbrev n_free_turned : FuncId := 277
abbrev n_free_Pop_c1_c1_c1 : FuncId := 278
abbrev n_retire_Scan_c1 : FuncId := 279
abbrev n_retire_scanned : FuncId := 280
abbrev n_prog_Set_c1 : FuncId := 292
abbrev n_prog_Store_prog_None_c1 : FuncId := 295
abbrev n_prog_Then_int_int_c1 : FuncId := 296
abbrev n_retire_Put_c1 : FuncId := 297
abbrev n_plan_Plan_Retired : FuncId := 298
abbrev n_retire_Put_c1_c1 : FuncId := 299
abbrev n_retire_Put_c1_c1_c1 : FuncId := 300
abbrev n_domain_named_c1 : FuncId := 301
abbrev n_prog_Then_api_Res_api_Res_c1 : FuncId := 302
abbrev n_queue_where_granted : FuncId := 304
abbrev n_queue_Make_c1 : FuncId := 305
abbrev n_queue_Make_c1_c1 : FuncId := 307
abbrev n_queue_Make_c1_c1_c1 : FuncId := 308
abbrev n_queue_Enq_c1 : FuncId := 310
abbrev n_queue_Enq_c1_c1 : FuncId := 311
abbrev n_queue_where_put : FuncId := 312
abbrev n_queue_where_take : FuncId := 313
abbrev n_list_Add : FuncId := 314
abbrev n_list_Get : FuncId := 316
abbrev n_list_Del : FuncId := 317
abbrev n_prog_Store_alloc_Grant_c1 : FuncId := 319
abbrev n_prog_Swap_int_c1 : FuncId := 320
abbrev n_retire_scanned_c1 : FuncId := 322
abbrev n_prog_Then_bool_int : FuncId := 323
abbrev n_hazard_Held : FuncId := 324
abbrev n_retire_scanned_c1_c1 : FuncId := 325
abbrev n_retire_removed : FuncId := 326
abbrev n_queue_where_granted_c1 : FuncId := 332
abbrev n_prog_Then_uint64_api_Res : FuncId := 333
abbrev n_hazard_Guard : FuncId := 334
abbrev n_queue_where_put_c1 : FuncId := 335
abbrev n_queue_where_put_c1_c1 : FuncId := 337
abbrev n_queue_where_put_c1_c1_c1 : FuncId := 338
abbrev n_queue_where_put_c1_c1_c1_c1 : FuncId := 339
abbrev n_queue_where_put_c1_c1_c1_c2 : FuncId := 340
abbrev n_queue_where_put_c1_c1_c1_c2_c1 : FuncId := 341
abbrev n_queue_where_set : FuncId := 342
abbrev n_queue_where_put_c1_c1_c1_c2_c1_c1 : FuncId := 343
abbrev n_queue_where_take_c1 : FuncId := 344
abbrev n_queue_where_take_c1_c1 : FuncId := 345
abbrev n_queue_where_take_c1_c1_c1 : FuncId := 346
abbrev n_queue_where_take_c1_c1_c1_c1 : FuncId := 347
abbrev n_queue_where_take_c1_c1_c1_c1_c1 : FuncId := 348
abbrev n_queue_where_taken : FuncId := 349
abbrev n_list_Add_c1 : FuncId := 350
abbrev n_list_Add_c1_c1 : FuncId := 352
abbrev n_list_Add_c1_c1_c1 : FuncId := 353
abbrev n_list_put : FuncId := 354
abbrev n_prog_Then_list_walk_api_Res : FuncId := 355
abbrev n_list_find : FuncId := 356
abbrev n_list_Get_c1 : FuncId := 357
abbrev n_list_leave : FuncId := 358
abbrev n_list_Get_c1_c1 : FuncId := 360
abbrev n_list_Del_c1 : FuncId := 361
abbrev n_list_Del_c1_c1 : FuncId := 362
abbrev n_list_Del_c1_c1_c1 : FuncId := 363
abbrev n_list_deleted : FuncId := 364
abbrev n_prog_Then_bool_int_c1 : FuncId := 365
abbrev n_hazard_held : FuncId := 366
abbrev n_retire_removed_c1 : FuncId := 367
abbrev n_retire_removed_c1_c1 : FuncId := 368
abbrev n_retire_Reclaim : FuncId := 369
abbrev n_retire_removed_c1_c1_c1 : FuncId := 370
abbrev n_retire_removed_c2 : FuncId := 371
abbrev n_prog_Then_uint64_api_Res_c1 : FuncId := 372
abbrev n_hazard_Guard_c1 : FuncId := 374
abbrev n_hazard_guard : FuncId := 375
abbrev n_queue_where_set_c1 : FuncId := 376
abbrev n_queue_where_leave : FuncId := 377
abbrev n_queue_where_taken_c1 : FuncId := 378
abbrev n_queue_where_taken_c2 : FuncId := 379
abbrev n_queue_where_taken_c3 : FuncId := 380
abbrev n_queue_where_taken_c3_c1 : FuncId := 381
abbrev n_queue_where_taken_c3_c1_c1 : FuncId := 382
abbrev n_alloc_Retire : FuncId := 383
abbrev n_queue_where_taken_c3_c1_c1_c1 : FuncId := 384
abbrev n_list_put_c1 : FuncId := 385
abbrev n_hazard_Clear : FuncId := 386
abbrev n_list_put_c1_c1 : FuncId := 387
abbrev n_list_put_c1_c1_c1 : FuncId := 388
abbrev n_list_put_c1_c2 : FuncId := 389
abbrev n_list_put_c1_c2_c1 : FuncId := 391
abbrev n_prog_Then_list_walk_api_Res_c1 : FuncId := 392
abbrev n_prog_Then_uint64_list_walk : FuncId := 393
abbrev n_list_find_c1 : FuncId := 394
abbrev n_list_walk_step : FuncId := 395
abbrev n_list_leave_c1 : FuncId := 396
abbrev n_list_deleted_c1 : FuncId := 397
abbrev n_list_deleted_c1_c1 : FuncId := 398
abbrev n_list_walk_anew : FuncId := 399
abbrev n_list_deleted_c1_c2 : FuncId := 400
abbrev n_hazard_held_c1 : FuncId := 403
abbrev n_retire_zero : FuncId := 404
abbrev n_retire_Reclaim_c1 : FuncId := 405
abbrev n_retire_Reclaim_c1_c1 : FuncId := 406
abbrev n_retire_Reclaim_c1_c1_c1 : FuncId := 407
abbrev n_free_Push : FuncId := 408
abbrev n_prog_Then_prog_None_uint64 : FuncId := 411
abbrev n_hazard_guard_c1 : FuncId := 412
abbrev n_hazard_guard_c1_c1 : FuncId := 413
abbrev n_queue_where_leave_c1 : FuncId := 414
abbrev n_alloc_Retire_c1 : FuncId := 415
abbrev n_alloc_Retire_c1_c1 : FuncId := 416
abbrev n_hazard_clear : FuncId := 417
abbrev n_prog_Then_uint64_list_walk_c1 : FuncId := 419
abbrev n_list_walk_step_c1 : FuncId := 422
abbrev n_list_walk_set : FuncId := 423
abbrev n_list_walk_step_c1_c1 : FuncId := 424
abbrev n_list_walk_step_c1_c1_c1 : FuncId := 425
abbrev n_list_walk_keyed : FuncId := 426
abbrev n_retire_zero_c1 : FuncId := 428
abbrev n_free_Push_c1 : FuncId := 429
abbrev n_free_Push_c1_c1 : FuncId := 430
abbrev n_free_Push_c1_c1_c1 : FuncId := 431
abbrev n_prog_Then_prog_None_uint64_c1 : FuncId := 432
abbrev n_prog_Then_prog_None_prog_None : FuncId := 433
abbrev n_hazard_clear_c1 : FuncId := 434
abbrev n_prog_Then_prog_None_list_walk : FuncId := 435
abbrev n_list_walk_set_c1 : FuncId := 436
abbrev n_list_walk_keyed_c1 : FuncId := 437
abbrev n_list_walk_keyed_c1_c1 : FuncId := 438
abbrev n_list_walk_unlinked : FuncId := 439
abbrev n_list_walk_on : FuncId := 440
abbrev n_prog_Then_prog_None_prog_None_c1 : FuncId := 441
abbrev n_prog_Then_prog_None_list_walk_c1 : FuncId := 442
abbrev n_list_walk_unlinked_c1 : FuncId := 444
abbrev n_prog_Then_int_list_walk : FuncId := 445
abbrev n_list_walk_unlinked_c1_c1 : FuncId := 446
abbrev n_list_walk_on_c1 : FuncId := 447
abbrev n_list_walk_on_c1_c1 : FuncId := 448
abbrev n_prog_Swap_list_walk_c1 : FuncId := 449
abbrev n_prog_Then_int_list_walk_c1 : FuncId := 450
abbrev I (x : Int) : DV := .int .i64 x
abbrev U (x : Int) : DV := .int .u64 x
structure Pl where
  qNodes : Int
  qThreads : Int
  qRetire : Int
  qDomains : Int
  qBuckets : Int
  qGen : Int
abbrev Pl.cs (x : Pl) : List DV := [.int .i64 x.qNodes, .int .i64 x.qThreads, .int .i64 x.qRetire, .int .i64 x.qDomains, .int .i64 x.qBuckets, .int .i64 x.qGen]
structure Se where
  qP : Pl
  qTenant : Int
  qThread : Int
abbrev Se.cs (x : Se) : List DV := x.qP.cs ++ [.int .i64 x.qTenant, .int .i64 x.qThread]
structure Sta where
  qGen : Int
  qMode : Int
  qKind : Int
abbrev Sta.cs (x : Sta) : List DV := [.int .i64 x.qGen, .int .i64 x.qMode, .int .i64 x.qKind]
structure Ha where
  qIndex : Int
  qGen : Int
  qTenant : Int
abbrev Ha.cs (x : Ha) : List DV := [.int .i64 x.qIndex, .int .i64 x.qGen, .int .i64 x.qTenant]
structure Fld where
  qAt : Int
  qBits : Int
abbrev Fld.cs (x : Fld) : List DV := [.int .i64 x.qAt, .int .i64 x.qBits]
structure Ope where
  qCode : Int
  qD : Int
  qF : Int
  qH : Int
  qA : Int
  qB : Int
abbrev Ope.cs (x : Ope) : List DV := [.int .i64 x.qCode, .int .i64 x.qD, .int .i64 x.qF, .int .u64 x.qH, .int .u64 x.qA, .int .u64 x.qB]
structure Re where
  qE : Int
  qV : Int
abbrev Re.cs (x : Re) : List DV := [.int .i64 x.qE, .int .u64 x.qV]
structure Gr where
  qNode : Int
  qGen : Int
  qE : Int
abbrev Gr.cs (x : Gr) : List DV := [.int .i64 x.qNode, .int .i64 x.qGen, .int .i64 x.qE]
structure Non where
abbrev Non.cs (x : Non) : List DV := []
structure Wh where
  qSeat : Se
  qhead : Int
  qtail : Int
abbrev Wh.cs (x : Wh) : List DV := x.qSeat.cs ++ [.int .i64 x.qhead, .int .i64 x.qtail]
structure Scn where
  qat : Int
  qleft : Int
  qdone : Int
abbrev Scn.cs (x : Scn) : List DV := [.int .i64 x.qat, .int .i64 x.qleft, .int .i64 x.qdone]
structure Wk where
  qSeat : Se
  qcell : Int
  qk : Int
  qplace : Int
  qcur : Int
  qnext : Int
  qthere : Bool
abbrev Wk.cs (x : Wk) : List DV := x.qSeat.cs ++ [.int .i64 x.qcell, .int .u64 x.qk, .int .i64 x.qplace, .int .u64 x.qcur, .int .u64 x.qnext, .bool x.qthere]
/-- A kind of programs: the cells of what they come to, and those of nothing. -/
structure Kn (R : Type) where
  arg : R → DV
  zero : List DV
abbrev pO {R : Type} (K : Kn R) (r : R) : DV := .agg (.bool true :: ((K.arg r).cells ++ [I 0, I 0, U 0, U 0, .nilf]))
abbrev pS {R : Type} (K : Kn R) (op at_ a b : Int) (g : FuncId) (c : List DV) : DV := .agg (.bool false :: (K.zero ++ [I op, I at_, U a, U b, .func g c]))
abbrev cellsOf : DV → List DV
  | .agg cs => cs
  | _ => []
abbrev kR : Kn Re := ⟨fun r => .agg r.cs, [.int .i64 0, .int .u64 0]⟩
abbrev kG : Kn Gr := ⟨fun r => .agg r.cs, [.int .i64 0, .int .i64 0, .int .i64 0]⟩
abbrev kI : Kn Int := ⟨fun r => .int .i64 r, [.int .i64 0]⟩
abbrev kN : Kn Non := ⟨fun r => .agg r.cs, []⟩
abbrev kU : Kn Int := ⟨fun r => .int .u64 r, [.int .u64 0]⟩
abbrev kW : Kn Wk := ⟨fun r => .agg r.cs, [.int .i64 0, .int .i64 0, .int .i64 0, .int .i64 0, .int .i64 0, .int .i64 0, .int .i64 0, .int .i64 0, .int .i64 0, .int .u64 0, .int .i64 0, .int .u64 0, .int .u64 0, .bool false]⟩
abbrev kB : Kn Bool := ⟨fun r => .bool r, [.bool false]⟩
/-- A call that comes to a value, and changes nothing. -/
def Ck (f : FuncId) (args : List DV) (d : DV) : Prop := ∀ m, CallOk Tryz.prog f args m d m false []
/-- A call, of all there is; m, n: others' cells, and the names' number. -/
def Cm (f : FuncId) (args : List DV) (m : Mu) (n : Nat) (d : DV) (m' : Mu) (n' : Nat) : Prop := CallOk Tryz.prog f args m d m' false (List.range' n (n' - n)) ∧ n ≤ n'
theorem Ck.m {f : FuncId} {args : List DV} {d : DV} (h : Ck f args d) (m : Mu) (n : Nat) : Cm f args m n d m n := ⟨by rw [Nat.sub_self]; exact h m, Nat.le_refl _⟩
/-- A call that hands on the program that another call comes to, whose cells and names are others. -/
structure PasM {R : Type} (K : Kn R) (m1 : Mu) (n1 : Nat) (g : FuncId) (xs : List DV) (m : Mu) (n : Nat) (f : FuncId) (args : List DV) : Prop where
  o : ∀ {r m2 n2}, Cm g xs m1 n1 (pO K r) m2 n2 → Cm f args m n (pO K r) m2 n2
  s : ∀ {op a x y h c m2 n2}, Cm g xs m1 n1 (pS K op a x y h c) m2 n2 → Cm f args m n (pS K op a x y h c) m2 n2
theorem pas {R : Type} {K : Kn R} {m1 m : Mu} {n1 n : Nat} {g f : FuncId} {xs args : List DV} (o : ∀ {r m2 n2}, Cm g xs m1 n1 (pO K r) m2 n2 → Cm f args m n (pO K r) m2 n2) (s : ∀ {op a x y h c m2 n2}, Cm g xs m1 n1 (pS K op a x y h c) m2 n2 → Cm f args m n (pS K op a x y h c) m2 n2) : PasM K m1 n1 g xs m n f args := ⟨o, s⟩
end Go.Proofs.YtpckjfncecoibaaGreat.Fun
